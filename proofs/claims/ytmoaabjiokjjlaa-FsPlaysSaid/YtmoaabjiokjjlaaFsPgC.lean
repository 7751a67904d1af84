/- The two file systems beside one another. -/
import Derived.Test.YtmoaabjiokjjlaaFsPgB
import Derived.SizedLaws
import Derived.Test.YtmoaabjiokjjlaaFrameFs
namespace Go.Proofs.Ytmoaabjiokjjlaa
open Go.RowKit Go.Maps
set_option linter.unusedVariables false
set_option linter.unusedSimpArgs false

def RfIn (F : Nat → Prop) (p : Nat) (W : World) (S : Fs) : Prop := ∃ q, q.p = p ∧ RfAt W F q S
section
variable {W W' : World} {F F' : Nat → Prop} {p N : Nat} {S S' : Fs}
theorem RfIn.mono (h : RfIn F p W S) (hF : ∀ k, F k → F' k) : RfIn F' p W S := by
  obtain ⟨q, hq, hA⟩ := h
  exact ⟨q, hq, hA.mono hF⟩
theorem RfIn.bound (h : RfIn F p W S) : RfIn (fun k => F k ∧ k < W.heap.size) p W S := by
  obtain ⟨q, hq, hA⟩ := h
  exact ⟨q, hq, hA.bound⟩
theorem RfIn.chg {C : Nat → Prop} (h : RfIn F p W S) (hc : Chg C W W') (hn : ∀ k, F k → k < W.heap.size → ¬ C k) : RfIn F p W' S := by
  obtain ⟨q, hq, hA⟩ := h
  exact ⟨q, hq, hA.chg hc hn⟩
theorem RfTo.in_ (h : RfTo F p W S' W') (hF : ∀ k, W.heap.size ≤ k → F k) : RfIn F p W' S' ∧ Chg F W W' := by
  obtain ⟨q, hA, hp, hC⟩ := h
  exact ⟨⟨q, hp, hA.mono fun k hk => hk.elim id (hF k)⟩, hC⟩
end
/-- The blocks of K are as they were. -/
abbrev Keep (K : Nat → Prop) (W W' : World) : Prop := Chg (fun k => ¬ K k) W W'
/-- Two file systems, each with blocks of its own, none of them in K. -/
structure Two (K A B : Nat → Prop) (p r : Nat) (W : World) (S T : Fs) : Prop where
  fs : FsIn A p W S
  rf : RfIn B r W T
  la : ∀ k, A k → ¬ K k ∧ k < W.heap.size
  lb : ∀ k, B k → ¬ K k ∧ k < W.heap.size
  lk : ∀ k, K k → k < W.heap.size
  dis : ∀ k, A k → ¬ B k
section
variable {K K' A B : Nat → Prop} {p r : Nat} {W W' : World} {S S' T T' : Fs} {N : Nat}
theorem Two.same (h : Two K A B p r W S T) {C : Nat → Prop} (hc : Chg C W W') (hn : ∀ k, (A k ∨ B k) → ¬ C k) : Two K A B p r W' S T :=
  ⟨h.fs.chg hc (fun k hk _ => hn k (.inl hk)), h.rf.chg hc (fun k hk _ => hn k (.inr hk)), fun k hk => ⟨(h.la k hk).1, Nat.lt_of_lt_of_le (h.la k hk).2 hc.size⟩, fun k hk => ⟨(h.lb k hk).1, Nat.lt_of_lt_of_le (h.lb k hk).2 hc.size⟩, fun k hk => Nat.lt_of_lt_of_le (h.lk k hk) hc.size, h.dis⟩
theorem Two.below (h : Two K A B p r W S T) (hb : Below W.heap.size W W') : Two K A B p r W' S T := h.same (Chg.of_below (S := fun _ => False) hb) (fun _ _ h => h)
theorem Two.drew (h : Two K A B p r W S T) : Two K A B p r W.drew S T := h.below (Below.refl _ _).drew
/-- More blocks that are kept: those that came since. -/
theorem Two.more (h : Two K A B p r W S T) (hb : Below W.heap.size W W') (hK : ∀ k, K' k → k < W'.heap.size ∧ (K k ∨ W.heap.size ≤ k)) : Two K' A B p r W' S T := by
  have h2 := h.below hb
  refine ⟨h2.fs, h2.rf, fun k hk => ⟨fun hx => ?_, (h2.la k hk).2⟩, fun k hk => ⟨fun hx => ?_, (h2.lb k hk).2⟩, fun k hk => (hK k hk).1, h.dis⟩
  · rcases (hK k hx).2 with h1 | h1
    · exact (h.la k hk).1 h1
    · have := (h.la k hk).2; omega
  · rcases (hK k hx).2 with h1 | h1
    · exact (h.lb k hk).1 h1
    · have := (h.lb k hk).2; omega
theorem Two.less (h : Two K A B p r W S T) (hK : ∀ k, K' k → K k) : Two K' A B p r W S T := ⟨h.fs, h.rf, fun k hk => ⟨fun hx => (h.la k hk).1 (hK k hx), (h.la k hk).2⟩, fun k hk => ⟨fun hx => (h.lb k hk).1 (hK k hx), (h.lb k hk).2⟩, fun k hk => h.lk k (hK k hk), h.dis⟩
theorem Two.fsF (h : Two K A B p r W S T) : FsIn (fun k => A k ∨ W.heap.size ≤ k) p W S := h.fs.mono fun k hk => .inl hk
theorem Two.rfF (h : Two K A B p r W S T) : RfIn (fun k => B k ∨ W.heap.size ≤ k) r W T := h.rf.mono fun k hk => .inl hk
theorem Two.fsStep (h : Two K A B p r W S T) (h2 : FsIn (fun k => A k ∨ W.heap.size ≤ k) p W' S') (hc : Chg (fun k => A k ∨ W.heap.size ≤ k) W W') :
    (∃ A', Two K A' B p r W' S' T) ∧ Keep K W W' := by
  have hs := hc.size
  refine ⟨⟨fun k => (A k ∨ W.heap.size ≤ k) ∧ k < W'.heap.size, h2.bound, h.rf.chg hc (fun k hk hl hx => ?_), fun k hk => ⟨fun hx => ?_, hk.2⟩, fun k hk => ⟨(h.lb k hk).1, Nat.lt_of_lt_of_le (h.lb k hk).2 hs⟩, fun k hk => Nat.lt_of_lt_of_le (h.lk k hk) hs, fun k hk hb => ?_⟩, hc.mono (fun k _ hx hk => ?_)⟩
  · rcases hx with hx | hx
    · exact h.dis k hx hk
    · omega
  · rcases hk.1 with h1 | h1
    · exact (h.la k h1).1 hx
    · have := h.lk k hx; omega
  · rcases hk.1 with hx | hx
    · exact h.dis k hx hb
    · have := (h.lb k hb).2; omega
  · rcases hx with hx | hx
    · exact (h.la k hx).1 hk
    · have := h.lk k hk; omega
theorem Two.rfStep (h : Two K A B p r W S T) (h2 : RfIn (fun k => B k ∨ W.heap.size ≤ k) r W' T') (hc : Chg (fun k => B k ∨ W.heap.size ≤ k) W W') :
    (∃ B', Two K A B' p r W' S T') ∧ Keep K W W' := by
  have hs := hc.size
  refine ⟨⟨fun k => (B k ∨ W.heap.size ≤ k) ∧ k < W'.heap.size, h.fs.chg hc (fun k hk hl hx => ?_), h2.bound, fun k hk => ⟨(h.la k hk).1, Nat.lt_of_lt_of_le (h.la k hk).2 hs⟩, fun k hk => ⟨fun hx => ?_, hk.2⟩, fun k hk => Nat.lt_of_lt_of_le (h.lk k hk) hs, fun k hk hb => ?_⟩, hc.mono (fun k _ hx hk => ?_)⟩
  · rcases hx with hx | hx
    · exact h.dis k hk hx
    · omega
  · rcases hk.1 with h1 | h1
    · exact (h.lb k h1).1 hx
    · have := h.lk k hx; omega
  · rcases hb.1 with hx | hx
    · exact h.dis k hk hx
    · have := (h.la k hk).2; omega
  · rcases hx with hx | hx
    · exact (h.lb k hx).1 hk
    · have := h.lk k hk; omega
/-- What a call of the program's leaves. -/
def TwA (K : Nat → Prop) (B : Nat → Prop) (p r : Nat) (x : Int × Fs) (T : Fs) (W : World) (e : Ending) (W' : World) : Prop := e = .returned (.int .i64 x.1) ∧ (∃ A', Two K A' B p r W' x.2 T) ∧ Keep K W W'
/-- What a call of the document's leaves. -/
def TwB (K : Nat → Prop) (A : Nat → Prop) (p r : Nat) (x : Int × Fs) (S : Fs) (W : World) (e : Ending) (W' : World) : Prop := e = .returned (.int .i64 x.1) ∧ (∃ B', Two K A B' p r W' S x.2) ∧ Keep K W W'
theorem InPost.two (h : Two K A B p r W S T) {x : Int × Fs} {e : Ending} (hp : InPost (fun k => A k ∨ W.heap.size ≤ k) p x W e W') : TwA K B p r x T W e W' :=
  have h2 := h.fsStep hp.2.1 hp.2.2
  ⟨hp.1, h2.1, h2.2⟩
theorem RfPost.two (h : Two K A B p r W S T) {x : Int × Fs} {e : Ending} (hp : RfPost (fun k => B k ∨ W.heap.size ≤ k) r x W e W') : TwB K A p r x S W e W' :=
  have h1 := hp.2.in_ (fun k hk => .inr hk)
  have h2 := h.rfStep h1.1 h1.2
  ⟨hp.1, h2.1, h2.2⟩
theorem Two.create (h : Two K A B p r W S T) (hI : Inv N 16777216 S) (hN : N < 1000000) (s : ByteArray) (hs : s.size ≤ 9223372036854775807) : Calls Try.prog 10 #[ptrV p, .string s] W (TwA K B p r (createF S s.data.toList) T W) :=
  (create_in h.fsF hI hN (fun k hk => .inr hk) s hs).mono fun _ _ hp => hp.two h
theorem Two.rcreate (h : Two K A B p r W S T) (hI : Inv N 16777216 T) (hN : N < 1000000) (s : ByteArray) (hs : s.size ≤ 9223372036854775807) : Calls Try.prog 43 #[ptrV r, .string s] W (TwB K A p r (createF T s.data.toList) S W) := by
  obtain ⟨q, rfl, hA⟩ := h.rfF
  exact (rcreate_any W _ q T N hA hI hN s hs).mono fun _ _ hp => hp.two h
theorem Two.append (h : Two K A B p r W S T) (hI : Inv N 16777216 S) (hN : N ≤ 1000000) (s : ByteArray) (hs : s.size ≤ 9223372036854775807)
    (X : Option Addr) (n c : Nat) (xs : List Int) (hx : Ints .u8 W X xs) (hn : xs.length = n) (hnb : n ≤ 9223372036854775807) (hX : 0 < xs.length → ∀ b o, X = some ⟨b, o, none⟩ → ¬ A b) :
    Calls Try.prog 11 #[ptrV p, .string s, .slice X n c] W (TwA K B p r (appendF S s.data.toList xs) T W) :=
  (append_in h.fsF hI hN (fun k hk => .inr hk) s hs X n c xs hx hn hnb (fun hl b o e h2 => by
    rcases h2 with h2 | h2
    · exact hX hl b o e h2
    · have := hx.lt0 hl b o e; omega)).mono fun _ _ hp => hp.two h
theorem Two.rappend (h : Two K A B p r W S T) (hI : Inv N 16777216 T) (hN : N ≤ 1000000) (s : ByteArray) (hs : s.size ≤ 9223372036854775807) (xs : List Int) (hxs : xs.length ≤ 9223372036854775807) :
    Calls Try.prog 44 #[ptrV r, .string s, .string (strOfNums xs)] W (TwB K A p r (appendF T s.data.toList xs) S W) := by
  obtain ⟨q, rfl, hA⟩ := h.rfF
  exact (rappend_any W _ q T N hA hI hN s hs xs hxs).mono fun _ _ hp => hp.two h
theorem Two.read (h : Two K A B p r W S T) (hI : Inv N 16777216 S) (s : ByteArray) (hs : s.size ≤ 9223372036854775807) : Calls Try.prog 14 #[ptrV p, .string s] W (ReadPost S s.data.toList W) := read_in h.fs hI s hs
theorem Two.rread (h : Two K A B p r W S T) (hI : Inv N 16777216 T) (hN : N ≤ 1000000) (s : ByteArray) (hs : s.size ≤ 9223372036854775807) : Calls Try.prog 45 #[ptrV r, .string s] W (RReadPost T s.data.toList W) := by
  obtain ⟨q, rfl, hA⟩ := h.rf
  exact rread_any W _ q T N hA hI hN s hs
theorem Two.sync (h : Two K A B p r W S T) (hI : Inv N 16777216 S) (s : ByteArray) (hs : s.size ≤ 9223372036854775807) : Calls Try.prog 20 #[ptrV p, .string s] W (TwA K B p r (syncF S s.data.toList) T W) :=
  (sync_in h.fsF hI (fun k hk => .inr hk) s hs).mono fun _ _ hp => hp.two h
theorem Two.rsync (h : Two K A B p r W S T) (hI : Inv N 16777216 T) (hN : N ≤ 1000000) (s : ByteArray) (hs : s.size ≤ 9223372036854775807) : Calls Try.prog 46 #[ptrV r, .string s] W (TwB K A p r (syncF T s.data.toList) S W) := by
  obtain ⟨q, rfl, hA⟩ := h.rfF
  exact (rsync_any W _ q T N hA hI hN s hs).mono fun _ _ hp => hp.two h
theorem Two.rename (h : Two K A B p r W S T) (hI : Inv N 16777216 S) (hN : N ≤ 1000000) (s t : ByteArray) (hs : s.size ≤ 9223372036854775807) (ht : t.size ≤ 9223372036854775807) : Calls Try.prog 17 #[ptrV p, .string s, .string t] W (TwA K B p r (renameF S s.data.toList t.data.toList) T W) :=
  (rename_in h.fsF hI hN (fun k hk => .inr hk) s t hs ht).mono fun _ _ hp => hp.two h
theorem Two.rrename (h : Two K A B p r W S T) (hI : Inv N 16777216 T) (hN : N ≤ 1000000) (s t : ByteArray) (hs : s.size ≤ 9223372036854775807) (ht : t.size ≤ 9223372036854775807) : Calls Try.prog 47 #[ptrV r, .string s, .string t] W (TwB K A p r (renameF T s.data.toList t.data.toList) S W) := by
  obtain ⟨q, rfl, hA⟩ := h.rfF
  exact (rrename_any W _ q T N hA hI hN s t hs ht).mono fun _ _ hp => hp.two h
theorem Two.remove (h : Two K A B p r W S T) (hI : Inv N 16777216 S) (hN : N ≤ 1000000) (s : ByteArray) (hs : s.size ≤ 9223372036854775807) : Calls Try.prog 18 #[ptrV p, .string s] W (TwA K B p r (removeF S s.data.toList) T W) :=
  (remove_in h.fsF hI hN (fun k hk => .inr hk) s hs).mono fun _ _ hp => hp.two h
theorem Two.rremove (h : Two K A B p r W S T) (hI : Inv N 16777216 T) (hN : N ≤ 1000000) (s : ByteArray) (hs : s.size ≤ 9223372036854775807) : Calls Try.prog 48 #[ptrV r, .string s] W (TwB K A p r (removeF T s.data.toList) S W) := by
  obtain ⟨q, rfl, hA⟩ := h.rfF
  exact (rremove_any W _ q T N hA hI hN s hs).mono fun _ _ hp => hp.two h
theorem Two.syncNames (h : Two K A B p r W S T) (hI : Inv N 16777216 S) : Calls Try.prog 21 #[ptrV p] W (TwA K B p r (syncNamesF S) T W) :=
  (syncNames_in h.fsF hI (fun k hk => .inr hk)).mono fun _ _ hp => hp.two h
theorem Two.rsyncNames (h : Two K A B p r W S T) (hI : Inv N 16777216 T) : Calls Try.prog 49 #[ptrV r] W (TwB K A p r (syncNamesF T) S W) := by
  obtain ⟨q, rfl, hA⟩ := h.rfF
  exact (rsyncNames_any W _ q T N hA hI).mono fun _ _ hp => hp.two h
theorem Two.list (h : Two K A B p r W S T) (hI : Inv N 16777216 S) (hN : N ≤ 1000000) (s : ByteArray) : Calls Try.prog 13 #[ptrV p, .string s] W (ListPost S s.data.toList W) := list_in h.fs hI hN s
theorem Two.rlist (h : Two K A B p r W S T) (hI : Inv N 16777216 T) (hN : N ≤ 1000000) (s : ByteArray) (hs : s.size ≤ 9223372036854775807) : Calls Try.prog 30 #[ptrV r, .string s] W (RListPost T s.data.toList W) := by
  obtain ⟨q, rfl, hA⟩ := h.rf
  exact rlist_any W _ q T N hA hI hN s hs
theorem Two.used (h : Two K A B p r W S T) (hI : Inv N 16777216 S) (hN : N ≤ 1000000) : Calls Try.prog 16 #[ptrV p] W fun e w' => e = .returned (.int .i64 (usedF S)) ∧ Below W.heap.size W w' := used_in h.fs hI hN
theorem Two.rused (h : Two K A B p r W S T) (hI : Inv N 16777216 T) (hN : N ≤ 1000000) : Calls Try.prog 51 #[ptrV r] W fun e w' => e = .returned (.int .i64 (usedF T)) ∧ Below W.heap.size W w' := by
  obtain ⟨q, rfl, hA⟩ := h.rf
  exact (rused_any W _ q T N hA hI hN).mono fun e w' ⟨h1, m, h2⟩ => ⟨h1, by rw [h2]; exact below_dN (Below.refl _ _) m⟩
theorem Two.dead (h : Two K A B p r W S T) : Calls Try.prog 23 #[ptrV p] W fun e W' => e = .returned (.bool S.dead) ∧ W' = W := dead_in h.fs
theorem Two.rdead (h : Two K A B p r W S T) : W.cell? ⟨r, 6, none⟩ = some (.bool T.dead) := by
  obtain ⟨q, rfl, hA⟩ := h.rf
  exact hA.c6
theorem Two.fuse (h : Two K A B p r W S T) (k : Int) : Calls Try.prog 22 #[ptrV p, .int .i64 k] W fun e W' => e = .returned (.tuple #[]) ∧ (∃ A', Two K A' B p r W' (fuseF S k) T) ∧ Keep K W W' :=
  (fuse_in h.fsF k).mono fun _ _ hp => have h2 := h.fsStep hp.2.1 hp.2.2; ⟨hp.1, h2.1, h2.2⟩
theorem Two.rfuse (h : Two K A B p r W S T) (k : Int) : (∃ B', Two K A B' p r (W.setCell ⟨r, 5, none⟩ (.int .i64 (max k (-1)))) S (fuseF T k)) ∧ Keep K W (W.setCell ⟨r, 5, none⟩ (.int .i64 (max k (-1)))) := by
  obtain ⟨q, rfl, hA⟩ := h.rfF
  exact h.rfStep ⟨q, rfl, hA.set5 _⟩ ((Chg.refl _ _).setCell (a := ⟨q.p, 5, none⟩) (.inl hA.mem.p) _)
theorem Two.rfuseC (h : Two K A B p r W S T) : W.cell? ⟨r, 5, none⟩ = some (.int .i64 T.fuse) ∧ W.frozen? ⟨r, 5, none⟩ = false := by
  obtain ⟨q, rfl, hA⟩ := h.rf
  exact ⟨hA.c5, hA.fz 5⟩
theorem Two.crash (h : Two K A B p r W S T) (hI : Inv N 16777216 S) (hN : N ≤ 1000000) (k : Int) (X : Option Addr) (n c : Nat) (D : List Int) (hD : Ints .i64 W X D) (hn : D.length = n) (hnb : n ≤ 9223372036854775807) (hX : 0 < D.length → ∀ b o, X = some ⟨b, o, none⟩ → ¬ A b) :
    Calls Try.prog 12 #[ptrV p, .int .i64 k, .slice X n c] W fun e W' => e = .returned (.tuple #[]) ∧ (∃ A', Two K A' B p r W' (crashF S k D) T) ∧ Keep K W W' :=
  (crash_in h.fsF hI hN (fun k hk => .inr hk) k X n c D hD hn hnb (fun hl b o e h2 => by
    rcases h2 with h2 | h2
    · exact hX hl b o e h2
    · have := hD.lt0 hl b o e; omega)).mono fun _ _ hp => have h2 := h.fsStep hp.2.1 hp.2.2; ⟨hp.1, h2.1, h2.2⟩
theorem Two.rcrash (h : Two K A B p r W S T) (hI : Inv N 16777216 T) (hDv : Dv T) (hN : N ≤ 1000000) (k : Int) (X : Option Addr) (n c : Nat) (D : List Int) (hD : Ints .i64 W X D) (hn : D.length = n) (hnb : n ≤ 9223372036854775807) (hX : 0 < D.length → ∀ b o, X = some ⟨b, o, none⟩ → ¬ B b) :
    Calls Try.prog 50 #[ptrV r, .int .i64 k, .slice X n c] W fun e W' => e = .returned (.tuple #[]) ∧ (∃ B', Two K A B' p r W' S (crashF T k D)) ∧ Keep K W W' := by
  obtain ⟨q, rfl, hA⟩ := h.rfF
  exact (rcrash_any W _ q T N hA hI hDv hN k X n c D hD hn hnb (fun hl b o e h2 => by
    rcases h2 with h2 | h2
    · exact hX hl b o e h2
    · have := hD.lt0 hl b o e; omega)).mono fun _ _ hp => have h1 := hp.2.in_ (fun k hk => .inr hk); have h2 := h.rfStep h1.1 h1.2; ⟨hp.1, h2.1, h2.2⟩
theorem Two.rcopy (h : Two K A B p r W S T) (hI : Inv N 16777216 T) (hN : N ≤ 1000000) : Calls Try.prog 29 #[.pointer (some ⟨r, 0, none⟩)] W fun e W' => ∃ r', e = .returned (.pointer (some ⟨r', 0, none⟩)) ∧ RfIn (fun k => W.heap.size ≤ k) r' W' T ∧ Below W.heap.size W W' := by
  obtain ⟨q, rfl, hA⟩ := h.rf
  exact (rcopy_any W _ q T N hA hI hN).mono fun e W' ⟨q', h1, h2, h3⟩ => ⟨q'.p, h1, ⟨q', rfl, h2⟩, h3⟩
end
end Go.Proofs.Ytmoaabjiokjjlaa
namespace Go.Proofs.Ytmoaabjiokjjlaa
open Go.RowKit Go.Maps
set_option linter.unusedVariables false
set_option linter.unusedSimpArgs false

/-- What do leaves. -/
def DoPost (K : Nat → Prop) (p r N : Nat) (w : World) (e : Ending) (w' : World) : Prop :=
  e = .returned (.bool true) ∧ ∃ (S' : Fs) (A' B' : Nat → Prop), Two K A' B' p r w' S' S' ∧ Inv (N + 1) 16777216 S' ∧ Dv S' ∧ Keep K w w'
/-- While one call is made on both. -/
def IDo (K A B : Nat → Prop) (p r : Nat) (w6 : World) (S S' : Fs) : List Value → World → Prop
  | [], W => W = w6.drew
  | [_], W => (∃ A', Two K A' B p r W S' S) ∧ Keep K w6 W
  | _ :: _ :: _, W => (∃ A' B', Two K A' B' p r W S' S') ∧ Keep K w6 W
theorem IDo.keep {K A B : Nat → Prop} {p r : Nat} {w6 : World} {S S' : Fs} {vs : List Value} {W : World} (h : IDo K A B p r w6 S S' vs W) : Keep K w6 W := by
  rcases vs with _ | ⟨v, _ | ⟨u, vs⟩⟩
  · rw [show W = w6.drew from h]; exact (Chg.refl _ _).drew
  · exact h.2
  · exact h.2
theorem Keep.cell {K : Nat → Prop} {W W' : World} (h : Keep K W W') {g o : Nat} {v : Value} (hc : W.cell? ⟨g, o, none⟩ = some v) (hg : K g) : W'.cell? ⟨g, o, none⟩ = some v :=
  (World.cell?_of_block (h.block g (World.block_lt_of_cell? W _ hc) (fun hn => hn hg))).trans hc
theorem Keep.ints {K : Nat → Prop} {W W' : World} (h : Keep K W W') {k : IntKind} {A : Option Addr} {xs : List Int} (hi : Ints k W A xs) (hg : 0 < xs.length → ∀ b o, A = some ⟨b, o, none⟩ → K b) : Ints k W' A xs :=
  hi.chg0 h (fun hl b o e hn => hn (hg hl b o e))
theorem readL_len {N : Nat} {S : Fs} (hI : Inv N 16777216 S) (n : Nm) : (readL S n).length ≤ 9223372036854775807 := by
  unfold readL
  split
  · unfold bytesF
    split
    · simp
    · rename_i i _
      cases hf : S.files[i]? with
      | none => simp
      | some x =>
        have := hI.big x (List.mem_of_getElem? hf)
        simp
        omega
  · simp
/-- A row of bytes: one of them. -/
theorem own_step {W : World} {A : Option Addr} {n c i : Nat} {ys : List Int} (h : OwnS W 0 5 1 (.slice A n c) n (ys.map (Value.int .u8))) (hy : ys.length = n) (hi : i < n) :
    ∃ (b o : Nat) (y : Int), A = some ⟨b, o, none⟩ ∧ W.cell? ⟨b, o + i, none⟩ = some (.int .u8 y) ∧ W.frozen? ⟨b, o + i, none⟩ = false ∧ ∀ z : Int, OwnS (W.setCell ⟨b, o + i, none⟩ (.int .u8 z)) 0 5 1 (.slice (some ⟨b, o, none⟩) n c) n ((ys.set i z).map (Value.int .u8)) := by
  obtain ⟨g, off, c', hv, hb, hg, hc⟩ := h.cells (by simp; omega)
  injection hv with hA _ hcc
  subst hA
  subst hcc
  have hil : i < (ys.map (Value.int .u8)).length := by simp; omega
  obtain ⟨y, hy2⟩ : ∃ y, ys[i]? = some y := ⟨_, List.getElem?_eq_getElem (by omega)⟩
  refine ⟨g, off, y, rfl, ?_, (OwnS.free h hil).1, fun z => ?_⟩
  · rw [hc i hil, List.getElem?_map, hy2]; rfl
  · have := OwnS.setAt h hil (.int .u8 z)
    rw [List.map_set]
    exact this
set_option maxRecDepth 100000 in
set_option maxHeartbeats 8000000 in
theorem do_any (w : World) (K A B : Nat → Prop) (p r : Nat) (S : Fs) (N : Nat) (x : OpV) (h : Two K A B p r w S S) (hI : Inv N 16777216 S) (hD : Dv S) (hN : N ≤ 500)
    (hsa : x.a.size ≤ 9223372036854775807) (hsb : x.b.size ≤ 9223372036854775807) (hxI : Ints .u8 w x.A x.xs) (hxw : ∀ y ∈ x.xs, 0 ≤ y ∧ y < 256) (hxl : x.xs.length ≤ 9223372036854775807) (hyI : Ints .i64 w x.B x.ys) (hyl : x.ys.length ≤ 9223372036854775807) (hnn : x.nn ≤ 9223372036854775807) (hxb : x.xs.length ≤ 140737488351232)
    (hKA : 0 < x.xs.length → ∀ b o, x.A = some ⟨b, o, none⟩ → K b) (hKB : 0 < x.ys.length → ∀ b o, x.B = some ⟨b, o, none⟩ → K b) :
    Calls Try.prog 28 #[ptrV p, ptrV r, .agg (opCells x)] w (DoPost K p r N w) := by
  have HPO : Hid (∀ e w', DoPost K p r N w e w' = (e = .returned (.bool true) ∧ ∃ (S' : Fs) (A' B' : Nat → Prop), Two K A' B' p r w' S' S' ∧ Inv (N + 1) 16777216 S' ∧ Dv S' ∧ Keep K w w')) := Lib.hid (fun _ _ => rfl)
  generalize DoPost K p r N w = POST at *
  have hb0 : Below w.heap.size w (w.alloc (.cells (opCells x) 39)) := (Below.refl _ _).alloc (Nat.le_refl _) _
  have hof := opF_new w x
  have H6 := Lib.hid (h.more (K' := fun k => K k ∨ k = w.heap.size) hb0 (fun k hk => by
    rcases hk with hk | hk
    · exact ⟨Nat.lt_of_lt_of_le (h.lk k hk) hb0.size, .inl hk⟩
    · exact ⟨by rw [hk]; exact hof.blk, .inr (by omega)⟩))
  have HK0 : Hid (Keep K w (w.alloc (.cells (opCells x) 39))) := Lib.hid (Chg.of_below hb0)
  have HXI := Lib.hid (hxI.below hb0)
  have HYI := Lib.hid (hyI.below hb0)
  have HI := Lib.hid hI
  have HD := Lib.hid hD
  have HSA := Lib.hid hsa
  have HSB := Lib.hid hsb
  have HXW := Lib.hid hxw
  have HXL := Lib.hid hxl
  have HYL := Lib.hid hyl
  have HNN := Lib.hid hnn
  have HXB := Lib.hid hxb
  have HKA : Hid (0 < x.xs.length → ∀ b o, x.A = some ⟨b, o, none⟩ → K b ∨ b = w.heap.size) := Lib.hid (fun hl b o e => .inl (hKA hl b o e))
  have HKB : Hid (0 < x.ys.length → ∀ b o, x.B = some ⟨b, o, none⟩ → K b ∨ b = w.heap.size) := Lib.hid (fun hl b o e => .inl (hKB hl b o e))
  have HNB := Lib.hid hN
  clear h hI hD hsa hsb hxI hxw hxl hyI hyl hnn hxb hKA hKB hN hb0
  unfold opCells ptrV at *
  go_enter Try.func28, Try.ntmps28
  go_upto_region 1 with (fail)
  generalize w.alloc (.cells #[.int .i64 x.kd, .int .i64 x.nn, .string x.a, .string x.b, .slice x.A x.xs.length x.cA, .slice x.B x.ys.length x.cB] 39) = w6 at *
  generalize w.heap.size = og at *
  obtain ⟨K6, hK6⟩ : ∃ K6 : Nat → Prop, K6 = fun k => K k ∨ k = og := ⟨_, rfl⟩
  have HK6 : Hid (∀ k, K6 k ↔ K k ∨ k = og) := Lib.hid (fun k => by rw [hK6])
  rw [← hK6] at H6
  have HKO : Hid (K6 og) := Lib.hid (by rw [hK6]; exact .inr rfl)
  have HKA6 : Hid (0 < x.xs.length → ∀ b o, x.A = some ⟨b, o, none⟩ → K6 b) := Lib.hid (fun hl b o e => by rw [hK6]; exact HKA.out hl b o e)
  have HKB6 : Hid (0 < x.ys.length → ∀ b o, x.B = some ⟨b, o, none⟩ → K6 b) := Lib.hid (fun hl b o e => by rw [hK6]; exact HKB.out hl b o e)
  have HFIN : Hid (∀ (e : Ending) (S' : Fs) (A' B' : Nat → Prop) (W : World), e = .returned (.bool true) → Two K6 A' B' p r W S' S' → Inv (N + 1) 16777216 S' → Dv S' → Keep K6 w6 W → POST e W) := Lib.hid (fun e S' A' B' W he h1 h2 h3 h4 => by
    rw [HPO.out]
    exact ⟨he, S', A', B', h1.less (fun k hk => by rw [hK6]; exact .inl hk), h2, h3, HK0.out.trans (h4.mono (S' := fun k => ¬ K k) (fun k _ hn hk => hn (by rw [hK6]; exact .inl hk))) (fun _ _ h => h)⟩)
  clear hK6 HKA HKB HPO HK0
  have q0 : w6.cell? ⟨og, 0, none⟩ = some (.int .i64 x.kd) := hof.cell 0 (by decide)
  have q1 : w6.cell? ⟨og, 1, none⟩ = some (.int .i64 x.nn) := hof.cell 1 (by decide)
  have q2 : w6.cell? ⟨og, 2, none⟩ = some (.string x.a) := hof.cell 2 (by decide)
  have q3 : w6.cell? ⟨og, 3, none⟩ = some (.string x.b) := hof.cell 3 (by decide)
  have q4 : w6.cell? ⟨og, 4, none⟩ = some (.slice x.A x.xs.length x.cA) := hof.cell 4 (by decide)
  have q5 : w6.cell? ⟨og, 5, none⟩ = some (.slice x.B x.ys.length x.cB) := hof.cell 5 (by decide)
  have HQ : Hid (∀ W, Keep K6 w6 W → W.cell? ⟨og, 1, none⟩ = some (.int .i64 x.nn) ∧ W.cell? ⟨og, 2, none⟩ = some (.string x.a) ∧ W.cell? ⟨og, 3, none⟩ = some (.string x.b) ∧ W.cell? ⟨og, 4, none⟩ = some (.slice x.A x.xs.length x.cA) ∧ W.cell? ⟨og, 5, none⟩ = some (.slice x.B x.ys.length x.cB)) := Lib.hid (fun W hk => ⟨hk.cell q1 HKO.out, hk.cell q2 HKO.out, hk.cell q3 HKO.out, hk.cell q4 HKO.out, hk.cell q5 HKO.out⟩)
  clear hof
  by_cases hk0 : x.kd = 0
  · have e0 : (x.kd == 0) = true := by rw [hk0]; rfl
    clear hk0
    have HI2 : Hid (Inv (N + 1) 16777216 (createF S x.a.data.toList).2) := Lib.hid (HI.out.create _)
    have HD2 : Hid (Dv (createF S x.a.data.toList).2) := Lib.hid (HD.out.create _)
    obtain ⟨cd, hcd⟩ : ∃ cd, cd = (createF S x.a.data.toList).1 := ⟨_, rfl⟩
    obtain ⟨S2, hS2⟩ : ∃ S2, S2 = (createF S x.a.data.toList).2 := ⟨_, rfl⟩
    have HCD : Hid ((createF S x.a.data.toList).1 = cd) := Lib.hid hcd.symm
    have HS2 := Lib.hid hS2
    rw [← hS2] at HI2 HD2
    clear hcd hS2
    go_upto_region 3 with (fail)
    refine wp_region_ph (by kernel_rfl) [3, 7] [.span 0 0, .span 0 0, .span 0 0, .phase 0, .span 0 1, .span 0 1, .span 0 1, .phase 1, .span 2 2, .span 2 2] [fun z9 => z9 = .pointer (some ⟨p, 0, none⟩), fun z9 => z9 = .pointer (some ⟨og, 2, none⟩), fun z9 => z9 = .string x.a, fun z9 => z9 = .int .i64 cd, fun z9 => z9 = .pointer (some ⟨r, 0, none⟩), fun z9 => z9 = .pointer (some ⟨og, 2, none⟩), fun z9 => z9 = .string x.a, fun z9 => z9 = .int .i64 cd, fun z9 => z9 = .bool true, fun z9 => z9 = .bool true] (IDo K6 A B p r w6 S S2) (by kernel_rfl) (by kernel_rfl) (by kernel_rfl) (by kernel_rfl) (by kernel_rfl) (by kernel_rfl) rfl rfl ((show w6.drew = w6.drew from rfl)) ?steps ?done
    case steps =>
      refine ⟨?_, ?_, ?_, ?_, ?_, ?_, ?_, ?_, ?_, ?_, trivial⟩
      · intro us au w1 k0 hlo hhi ha hd hst hI
        obtain rfl : k0 = 0 := by omega
        have q0 := slot_far (t := 0) (v := .pointer (some ⟨p, 0, none⟩)) ha (by kernel_rfl) (by kernel_rfl)
        have p0 := slot_norm q0
        clear ha hd hst
        exact StepI.pure (v := .pointer (some ⟨p, 0, none⟩)) rfl rfl (by go_simp) ⟨rfl, hI⟩
      · intro us au w1 k1 hlo hhi ha hd hst hI
        obtain rfl : k1 = 0 := by omega
        have q5 := slot_far (t := 5) (v := .pointer (some ⟨og, 0, none⟩)) ha (by kernel_rfl) (by kernel_rfl)
        have p5 := slot_norm q5
        clear ha hd hst
        exact StepI.pure (v := .pointer (some ⟨og, 2, none⟩)) rfl rfl (by go_simp) ⟨rfl, hI⟩
      · intro us au w1 k2 hlo hhi ha hd hst hI
        obtain rfl : k2 = 0 := by omega
        have e1 := hd 1 _ (by kernel_rfl) rfl
        have q21 := slot_at (t := 21) 1 ha (by kernel_rfl) (by kernel_rfl) (by kernel_rfl) e1
        have p21 := slot_norm q21
        clear ha hd hst
        have kk := (HQ.out _ hI.keep).2.1
        exact StepI.pure (v := .string x.a) rfl rfl (by go_simp) ⟨rfl, hI⟩
      · intro us au w1 ha hd hst hI
        have e0 := hd 0 _ (by kernel_rfl) rfl
        have e2 := hd 2 _ (by kernel_rfl) rfl
        have q20 := slot_at (t := 20) 0 ha (by kernel_rfl) (by kernel_rfl) (by kernel_rfl) e0
        have p20 := slot_norm q20
        have q22 := slot_at (t := 22) 2 ha (by kernel_rfl) (by kernel_rfl) (by kernel_rfl) e2
        have p22 := slot_norm q22
        clear ha hd hst
        obtain rfl : w1 = w6.drew := hI
        refine StepI.call (f := 10) (args := #[.pointer (some ⟨p, 0, none⟩), .string x.a]) rfl rfl (by go_simp) ?_
        refine (H6.out.drew.create HI.out (by have := HNB.out; omega) x.a HSA.out).mono ?_
        rintro e w5 ⟨rfl, ht, hk⟩
        exact ⟨_, rfl, congrArg (Value.int .i64) HCD.out, by rw [HS2.out]; exact ht, ((Chg.refl _ _).drew).trans hk (fun _ _ h => h)⟩
      · intro us au w1 k4 hlo hhi ha hd hst hI
        have q1 := slot_far (t := 1) (v := .pointer (some ⟨r, 0, none⟩)) ha (by kernel_rfl) (by kernel_rfl)
        have p1 := slot_norm q1
        clear ha hd hst
        exact StepI.pure (v := .pointer (some ⟨r, 0, none⟩)) rfl rfl (by go_simp) ⟨rfl, hI⟩
      · intro us au w1 k5 hlo hhi ha hd hst hI
        have q5 := slot_far (t := 5) (v := .pointer (some ⟨og, 0, none⟩)) ha (by kernel_rfl) (by kernel_rfl)
        have p5 := slot_norm q5
        clear ha hd hst
        exact StepI.pure (v := .pointer (some ⟨og, 2, none⟩)) rfl rfl (by go_simp) ⟨rfl, hI⟩
      · intro us au w1 k6 hlo hhi ha hd hst hI
        have e5 := hd 5 _ (by kernel_rfl) rfl
        have q25 := slot_at (t := 25) 5 ha (by kernel_rfl) (by kernel_rfl) (by kernel_rfl) e5
        have p25 := slot_norm q25
        clear ha hd hst
        have kk := (HQ.out _ hI.keep).2.1
        exact StepI.pure (v := .string x.a) rfl rfl (by go_simp) ⟨rfl, hI⟩
      · intro us au w1 ha hd hst hI
        have e4 := hd 4 _ (by kernel_rfl) rfl
        have e6 := hd 6 _ (by kernel_rfl) rfl
        have q24 := slot_at (t := 24) 4 ha (by kernel_rfl) (by kernel_rfl) (by kernel_rfl) e4
        have p24 := slot_norm q24
        have q26 := slot_at (t := 26) 6 ha (by kernel_rfl) (by kernel_rfl) (by kernel_rfl) e6
        have p26 := slot_norm q26
        clear ha hd hst
        obtain ⟨⟨A5, ht⟩, hk5⟩ := hI
        refine StepI.call (f := 43) (args := #[.pointer (some ⟨r, 0, none⟩), .string x.a]) rfl rfl (by go_simp) ?_
        refine (ht.rcreate HI.out (by have := HNB.out; omega) x.a HSA.out).mono ?_
        rintro e w5 ⟨rfl, ⟨B5, ht5⟩, hk⟩
        exact ⟨_, rfl, congrArg (Value.int .i64) HCD.out, ⟨A5, B5, by rw [← HS2.out] at ht5; exact ht5⟩, hk5.trans hk (fun _ _ h => h)⟩
      · intro us au w1 k8 hlo hhi ha hd hst hI
        obtain rfl : k8 = 2 := by omega
        have e3 := hd 3 _ (by kernel_rfl) rfl
        have e7 := hd 7 _ (by kernel_rfl) rfl
        have q23 := slot_at (t := 23) 3 ha (by kernel_rfl) (by kernel_rfl) (by kernel_rfl) e3
        have p23 := slot_norm q23
        have q27 := slot_at (t := 27) 7 ha (by kernel_rfl) (by kernel_rfl) (by kernel_rfl) e7
        have p27 := slot_norm q27
        clear ha hd hst
        exact StepI.pure (v := .bool true) rfl rfl (by go_simp) ⟨rfl, hI⟩
      · intro us au w1 k9 hlo hhi ha hd hst hI
        obtain rfl : k9 = 2 := by omega
        have e8 := hd 8 _ (by kernel_rfl) rfl
        have q28 := slot_at (t := 28) 8 ha (by kernel_rfl) (by kernel_rfl) (by kernel_rfl) e8
        have p28 := slot_norm q28
        clear ha hd hst
        exact StepI.pure (v := .bool true) rfl rfl (by go_simp) ⟨rfl, hI⟩
    case done =>
      intro us w1 hI hd
      obtain ⟨⟨A5, B5, ht5⟩, hk5⟩ : (∃ A5 B5, Two K6 A5 B5 p r w1 S2 S2) ∧ Keep K6 w6 w1 := hI
      have HT5 := Lib.hid ht5
      have HK5 := Lib.hid hk5
      clear ht5 hk5
      have eL := hd 9 _ (by decide) rfl
      clear hd
      simp only [putAll]
      go_simp
      go_wp2
      exact HFIN.out _ S2 A5 B5 _ rfl HT5.out HI2.out HD2.out HK5.out
  · have e0 : (x.kd == 0) = false := by rw [beq_eq_false_iff_ne]; exact hk0
    clear hk0
    by_cases hk1 : x.kd = 1
    · have e1 : (x.kd == 1) = true := by rw [hk1]; rfl
      clear hk1
      have HI2 : Hid (Inv (N + 1) 16777216 (appendF S x.a.data.toList x.xs).2) := Lib.hid ((HI.out.append _ _).mono (Nat.le_succ _))
      have HD2 : Hid (Dv (appendF S x.a.data.toList x.xs).2) := Lib.hid (HD.out.append _ HXW.out)
      obtain ⟨cd, hcd⟩ : ∃ cd, cd = (appendF S x.a.data.toList x.xs).1 := ⟨_, rfl⟩
      obtain ⟨S2, hS2⟩ : ∃ S2, S2 = (appendF S x.a.data.toList x.xs).2 := ⟨_, rfl⟩
      have HCD : Hid ((appendF S x.a.data.toList x.xs).1 = cd) := Lib.hid hcd.symm
      have HS2 := Lib.hid hS2
      rw [← hS2] at HI2 HD2
      clear hcd hS2
      obtain ⟨i0, hi, hz0, hz1, hz2⟩ := info_parts info_u8'
      have hbx : Below w6.heap.size w6 (w6.alloc (.cells #[] 5)) := (Below.refl _ _).alloc (Nat.le_refl _) _
      have HBX := Lib.hid hbx
      have HO0 := Lib.hid (row_none w6 5 1)
      have HSR : Hid (Src Try.prog (w6.alloc (.cells #[] 5)) 1 (.slice x.A x.xs.length x.cA) x.xs.length (x.xs.map (Value.int .u8))) := Lib.hid (Src.ints (HXI.out.below hbx))
      have HQB := Lib.hid (HQ.out _ (Chg.of_below (S := fun k => ¬ K6 k) hbx)).2.2.2.1
      have q4b := HQB.out
      generalize hxn : x.xs.length = xn at *
      have HXN := Lib.hid hxn
      clear hxn
      have hbb := HXB.out
      have hm1 : 0 + xn ≤ maxLen := by unfold maxLen; omega
      have hb1 : (0 + xn) * 1 ≤ 140737488355328 := by omega
      clear hbx hbb
      go_upto_region 6 with (at_builtin; go_loud (refine wpList_append_S rfl (.tmp 31) (.tmp 33) 27 27 rfl i0 (.int .u8 0) 1 (.slice 5) Try.underlying27 Try.underlying27 (fun _ h => by cases h) hi hz0 hz1 hz2 rfl rfl rfl HO0.out HSR.out hm1 hb1 (Nat.zero_le _) ?_; intro A9 c9 w9 ho9 hg9 hw9; simp only [Nat.zero_add, List.nil_append] at ho9 hw9 ⊢))
      have hb9 : Below w6.heap.size w6 w9 := HBX.out.trans ⟨hg9.os, hg9.tape, hg9.output, hg9.size, fun k hk => hg9.block k (Nat.lt_of_lt_of_le hk HBX.out.size) (fun e => by have e2 : some k = some w6.heap.size := e; injection e2 with e2; omega)⟩
      have HLO : Hid (∀ k, (Value.slice A9 xn c9).ownBlock = some k → w6.heap.size ≤ k ∧ k < w9.heap.size) := Lib.hid (fun k hk => ⟨by
        rcases hw9 with h9 | h9
        · have h8 : some k = some w6.heap.size := hk.symm.trans h9; injection h8 with h8; omega
        · rw [hk] at h9; injection h9 with h9; simp at h9; omega, (ho9.lt k hk).2⟩)
      obtain ⟨K7, hK7⟩ : ∃ K7 : Nat → Prop, K7 = fun k => (K6 k ∨ w6.heap.size ≤ k) ∧ k < w9.heap.size := ⟨_, rfl⟩
      have HK7 : Hid (∀ k, K7 k ↔ (K6 k ∨ w6.heap.size ≤ k) ∧ k < w9.heap.size) := Lib.hid (fun k => by rw [hK7])
      have H7 : Hid (Two K7 A B p r w9 S S) := Lib.hid (H6.out.more hb9 (fun k hk => by rw [hK7] at hk; exact ⟨hk.2, hk.1⟩))
      have HKK : Hid (∀ k, K6 k → K7 k) := Lib.hid (fun k hk => by rw [hK7]; exact ⟨.inl hk, Nat.lt_of_lt_of_le (H6.out.lk k hk) hb9.size⟩)
      have HB9 := Lib.hid hb9
      have HOW0 := Lib.hid ho9
      clear hK7 hb9 ho9 hg9 hw9 hm1 hb1 q4b HQB HSR HO0 HBX hi hz0 hz1 hz2
      have HK9w : Hid (Keep K6 w6 w9) := Lib.hid (Chg.of_below HB9.out)
      have HQ9 : Hid (∀ W, Keep K7 w9 W → W.cell? ⟨og, 2, none⟩ = some (.string x.a) ∧ W.cell? ⟨og, 4, none⟩ = some (.slice x.A xn x.cA)) := Lib.hid (fun W hk => by
        have h1 := HQ.out W (HK9w.out.trans (hk.mono (S' := fun k => ¬ K6 k) (fun k _ hn hk6 => hn (HKK.out k hk6))) (fun _ _ h => h))
        exact ⟨h1.2.1, h1.2.2.2.1⟩)
      have HXI9 : Hid (∀ W, Keep K7 w9 W → Ints .u8 W x.A x.xs) := Lib.hid (fun W hk => (HK9w.out.ints HXI.out (by rw [HXN.out]; exact HKA6.out)).chg0 hk (fun hl b o e hn => hn (HKK.out b (HKA6.out (by rw [← HXN.out]; exact hl) b o e))))
      have HOI : Hid (Ints .u8 w9 A9 x.xs) := Lib.hid HOW0.out.ints
      have HOK : Hid (∀ b o, A9 = some ⟨b, o, none⟩ → K7 b) := Lib.hid (fun b o e => by have := HLO.out b (by rw [e]; rfl); exact (HK7.out b).2 ⟨.inr this.1, this.2⟩)
      have HCV := Lib.hid (fun (W : World) (h : Ints .u8 W x.A x.xs) => run_bstr W x.A xn x.cA x.xs h HXN.out)
      obtain ⟨st, hst⟩ : ∃ st, st = strOfNums x.xs := ⟨_, rfl⟩
      have HST := Lib.hid hst
      rw [← hst] at HCV
      clear hst
      refine wp_region_ph (by kernel_rfl) [4, 11] [.span 0 0, .span 0 0, .span 0 0, .span 0 0, .phase 0, .span 0 1, .span 0 1, .span 0 1, .span 0 1, .span 0 1, .span 0 1, .phase 1, .span 2 2, .span 2 2] [fun z9 => z9 = .pointer (some ⟨p, 0, none⟩), fun z9 => z9 = .pointer (some ⟨og, 2, none⟩), fun z9 => z9 = .string x.a, fun z9 => z9 = .slice A9 xn c9, fun z9 => z9 = .int .i64 cd, fun z9 => z9 = .pointer (some ⟨r, 0, none⟩), fun z9 => z9 = .pointer (some ⟨og, 2, none⟩), fun z9 => z9 = .string x.a, fun z9 => z9 = .pointer (some ⟨og, 4, none⟩), fun z9 => z9 = .slice x.A xn x.cA, fun z9 => z9 = .string st, fun z9 => z9 = .int .i64 cd, fun z9 => z9 = .bool true, fun z9 => z9 = .bool true] (IDo K7 A B p r w9 S S2) (by kernel_rfl) (by kernel_rfl) (by kernel_rfl) (by kernel_rfl) (by kernel_rfl) (by kernel_rfl) rfl rfl ((show w9.drew = w9.drew from rfl)) ?steps ?done
      case steps =>
        refine ⟨?_, ?_, ?_, ?_, ?_, ?_, ?_, ?_, ?_, ?_, ?_, ?_, ?_, ?_, trivial⟩
        · intro us au w1 k0 hlo hhi ha hd hst hI
          obtain rfl : k0 = 0 := by omega
          have q0 := slot_far (t := 0) (v := .pointer (some ⟨p, 0, none⟩)) ha (by kernel_rfl) (by kernel_rfl)
          have p0 := slot_norm q0
          clear ha hd hst
          exact StepI.pure (v := .pointer (some ⟨p, 0, none⟩)) rfl rfl (by go_simp) ⟨rfl, hI⟩
        · intro us au w1 k1 hlo hhi ha hd hst hI
          obtain rfl : k1 = 0 := by omega
          have q5 := slot_far (t := 5) (v := .pointer (some ⟨og, 0, none⟩)) ha (by kernel_rfl) (by kernel_rfl)
          have p5 := slot_norm q5
          clear ha hd hst
          exact StepI.pure (v := .pointer (some ⟨og, 2, none⟩)) rfl rfl (by go_simp) ⟨rfl, hI⟩
        · intro us au w1 k2 hlo hhi ha hd hst hI
          obtain rfl : k2 = 0 := by omega
          have e1 := hd 1 _ (by kernel_rfl) rfl
          have q36 := slot_at (t := 36) 1 ha (by kernel_rfl) (by kernel_rfl) (by kernel_rfl) e1
          have p36 := slot_norm q36
          clear ha hd hst
          have kk := (HQ9.out _ hI.keep).1
          exact StepI.pure (v := .string x.a) rfl rfl (by go_simp) ⟨rfl, hI⟩
        · intro us au w1 k3 hlo hhi ha hd hst hI
          obtain rfl : k3 = 0 := by omega
          have q7 := slot_far (t := 7) (v := .slice A9 xn c9) ha (by kernel_rfl) (by kernel_rfl)
          have p7 := slot_norm q7
          clear ha hd hst
          exact StepI.pure (v := .slice A9 xn c9) rfl rfl (by go_simp) ⟨rfl, hI⟩
        · intro us au w1 ha hd hst hI
          have e0 := hd 0 _ (by kernel_rfl) rfl
          have e2 := hd 2 _ (by kernel_rfl) rfl
          have e3 := hd 3 _ (by kernel_rfl) rfl
          have q35 := slot_at (t := 35) 0 ha (by kernel_rfl) (by kernel_rfl) (by kernel_rfl) e0
          have p35 := slot_norm q35
          have q37 := slot_at (t := 37) 2 ha (by kernel_rfl) (by kernel_rfl) (by kernel_rfl) e2
          have p37 := slot_norm q37
          have q38 := slot_at (t := 38) 3 ha (by kernel_rfl) (by kernel_rfl) (by kernel_rfl) e3
          have p38 := slot_norm q38
          clear ha hd hst
          obtain rfl : w1 = w9.drew := hI
          refine StepI.call (f := 11) (args := #[.pointer (some ⟨p, 0, none⟩), .string x.a, .slice A9 xn c9]) rfl rfl (by go_simp) ?_
          refine (H7.out.drew.append HI.out (by have := HNB.out; omega) x.a HSA.out A9 xn c9 x.xs (HOI.out.chg0 (Chg.refl (fun _ => False) w9).drew (fun _ _ _ _ h => h)) HXN.out HXL.out (fun hl b o e ha => (H7.out.la b ha).1 (HOK.out b o e))).mono ?_
          rintro e w5 ⟨rfl, ht, hk⟩
          exact ⟨_, rfl, congrArg (Value.int .i64) HCD.out, by rw [HS2.out]; exact ht, ((Chg.refl _ _).drew).trans hk (fun _ _ h => h)⟩
        · intro us au w1 k5 hlo hhi ha hd hst hI
          have q1 := slot_far (t := 1) (v := .pointer (some ⟨r, 0, none⟩)) ha (by kernel_rfl) (by kernel_rfl)
          have p1 := slot_norm q1
          clear ha hd hst
          exact StepI.pure (v := .pointer (some ⟨r, 0, none⟩)) rfl rfl (by go_simp) ⟨rfl, hI⟩
        · intro us au w1 k6 hlo hhi ha hd hst hI
          have q5 := slot_far (t := 5) (v := .pointer (some ⟨og, 0, none⟩)) ha (by kernel_rfl) (by kernel_rfl)
          have p5 := slot_norm q5
          clear ha hd hst
          exact StepI.pure (v := .pointer (some ⟨og, 2, none⟩)) rfl rfl (by go_simp) ⟨rfl, hI⟩
        · intro us au w1 k7 hlo hhi ha hd hst hI
          have e6 := hd 6 _ (by kernel_rfl) rfl
          have q41 := slot_at (t := 41) 6 ha (by kernel_rfl) (by kernel_rfl) (by kernel_rfl) e6
          have p41 := slot_norm q41
          clear ha hd hst
          have kk := (HQ9.out _ hI.keep).1
          exact StepI.pure (v := .string x.a) rfl rfl (by go_simp) ⟨rfl, hI⟩
        · intro us au w1 k8 hlo hhi ha hd hst hI
          have q5 := slot_far (t := 5) (v := .pointer (some ⟨og, 0, none⟩)) ha (by kernel_rfl) (by kernel_rfl)
          have p5 := slot_norm q5
          clear ha hd hst
          exact StepI.pure (v := .pointer (some ⟨og, 4, none⟩)) rfl rfl (by go_simp) ⟨rfl, hI⟩
        · intro us au w1 k9 hlo hhi ha hd hst hI
          have e8 := hd 8 _ (by kernel_rfl) rfl
          have q43 := slot_at (t := 43) 8 ha (by kernel_rfl) (by kernel_rfl) (by kernel_rfl) e8
          have p43 := slot_norm q43
          clear ha hd hst
          have kk := (HQ9.out _ hI.keep).2
          exact StepI.pure (v := .slice x.A xn x.cA) rfl rfl (by go_simp) ⟨rfl, hI⟩
        · intro us au w1 k10 hlo hhi ha hd hst hI
          have e9 := hd 9 _ (by kernel_rfl) rfl
          have q44 := slot_at (t := 44) 9 ha (by kernel_rfl) (by kernel_rfl) (by kernel_rfl) e9
          have p44 := slot_norm q44
          clear ha hd hst
          have kk := HCV.out _ (HXI9.out _ hI.keep)
          exact StepI.pure (v := .string st) rfl rfl (by go_simp) ⟨rfl, hI⟩
        · intro us au w1 ha hd hst hI
          have e5 := hd 5 _ (by kernel_rfl) rfl
          have e7 := hd 7 _ (by kernel_rfl) rfl
          have e10 := hd 10 _ (by kernel_rfl) rfl
          have q40 := slot_at (t := 40) 5 ha (by kernel_rfl) (by kernel_rfl) (by kernel_rfl) e5
          have p40 := slot_norm q40
          have q42 := slot_at (t := 42) 7 ha (by kernel_rfl) (by kernel_rfl) (by kernel_rfl) e7
          have p42 := slot_norm q42
          have q45 := slot_at (t := 45) 10 ha (by kernel_rfl) (by kernel_rfl) (by kernel_rfl) e10
          have p45 := slot_norm q45
          clear ha hd hst
          obtain ⟨⟨A5, ht⟩, hk5⟩ := hI
          refine StepI.call (f := 44) (args := #[.pointer (some ⟨r, 0, none⟩), .string x.a, .string st]) rfl rfl (by go_simp) ?_
          rw [HST.out]
          refine (ht.rappend HI.out (by have := HNB.out; omega) x.a HSA.out x.xs (by rw [HXN.out]; exact HXL.out)).mono ?_
          rintro e w5 ⟨rfl, ⟨B5, ht5⟩, hk⟩
          exact ⟨_, rfl, congrArg (Value.int .i64) HCD.out, ⟨A5, B5, by rw [← HS2.out] at ht5; exact ht5⟩, hk5.trans hk (fun _ _ h => h)⟩
        · intro us au w1 k12 hlo hhi ha hd hst hI
          obtain rfl : k12 = 2 := by omega
          have e4 := hd 4 _ (by kernel_rfl) rfl
          have e11 := hd 11 _ (by kernel_rfl) rfl
          have q39 := slot_at (t := 39) 4 ha (by kernel_rfl) (by kernel_rfl) (by kernel_rfl) e4
          have p39 := slot_norm q39
          have q46 := slot_at (t := 46) 11 ha (by kernel_rfl) (by kernel_rfl) (by kernel_rfl) e11
          have p46 := slot_norm q46
          clear ha hd hst
          exact StepI.pure (v := .bool true) rfl rfl (by go_simp) ⟨rfl, hI⟩
        · intro us au w1 k13 hlo hhi ha hd hst hI
          obtain rfl : k13 = 2 := by omega
          have e12 := hd 12 _ (by kernel_rfl) rfl
          have q47 := slot_at (t := 47) 12 ha (by kernel_rfl) (by kernel_rfl) (by kernel_rfl) e12
          have p47 := slot_norm q47
          clear ha hd hst
          exact StepI.pure (v := .bool true) rfl rfl (by go_simp) ⟨rfl, hI⟩
      case done =>
        intro us w1 hI hd
        obtain ⟨⟨A5, B5, ht5⟩, hk5⟩ : (∃ A5 B5, Two K7 A5 B5 p r w1 S2 S2) ∧ Keep K7 w9 w1 := hI
        have HNO : Hid (∀ b, (Value.slice A9 xn c9).ownBlock = some b → ¬ A5 b ∧ ¬ B5 b ∧ ¬ K6 b) := Lib.hid (fun b hb => by
          have h1 := HLO.out b hb
          have h2 : K7 b := (HK7.out b).2 ⟨.inr h1.1, h1.2⟩
          exact ⟨fun ha => (ht5.la b ha).1 h2, fun ha => (ht5.lb b ha).1 h2, fun h6 => by have := H6.out.lk b h6; omega⟩)
        have HT5 : Hid (Two K6 A5 B5 p r w1 S2 S2) := Lib.hid (ht5.less HKK.out)
        have HK5 : Hid (Keep K6 w6 w1) := Lib.hid (HK9w.out.trans (hk5.mono (S' := fun k => ¬ K6 k) (fun k _ hn hk6 => hn (HKK.out k hk6))) (fun _ _ h => h))
        have HOW : Hid (OwnS w1 0 5 1 (.slice A9 xn c9) xn (x.xs.map (Value.int .u8))) := Lib.hid (HOW0.out.chg hk5 (fun k hk hn => hn ((HK7.out k).2 ⟨.inr (HLO.out k hk).1, (HLO.out k hk).2⟩)))
        have HYZ : Hid (x.xs.length = xn) := Lib.hid HXN.out
        have HNM : Hid (xn ≤ 9223372036854775807) := Lib.hid HXL.out
        have eL := hd 13 _ (by decide) rfl
        clear hd ht5 hk5
        simp only [putAll]
        go_simp
        go_wp2
        go_loopw [9] (fun vi wz => ∃ (i : Nat) (ys : List Int), vi = .int .i64 (i : Int) ∧ i ≤ xn ∧ OwnS wz 0 5 1 (.slice A9 xn c9) xn (ys.map (Value.int .u8)) ∧ ys.length = xn ∧ Two K6 A5 B5 p r wz S2 S2 ∧ Keep K6 w6 wz) (fun vi _ => xn - (intOf vi).toNat)
        case atStart => exact ⟨0, _, rfl, Nat.zero_le _, HOW.out, HYZ.out, HT5.out, HK5.out⟩
        case round =>
          obtain ⟨i, ys, rfl, hi9, how, hyz, ht9, hk9⟩ := hrel
          have HOW9 := Lib.hid how
          have HYZ9 := Lib.hid hyz
          have HT9 := Lib.hid ht9
          have HK9 := Lib.hid hk9
          have hnn9 := HNM.out
          by_cases hlt : i < xn
          · obtain ⟨b, o, y, rfl, hy, hfz, hset⟩ := own_step how hyz hlt
            have d0 : decide ((i : Int) < (xn : Int)) = true := decide_eq_true (by omega)
            have d0' : decide (i < xn) = true := decide_eq_true hlt
            have HSET := Lib.hid (hset (IntKind.u8.wrap (y + 1)))
            have hno := HNO.out b rfl
            have HT10 := Lib.hid (ht9.same ((Chg.refl (fun k => k = b) wr).setCell (a := ⟨b, o + i, none⟩) (.inl rfl) (.int .u8 (IntKind.u8.wrap (y + 1)))) (fun k hk e => by rw [e] at hk; rcases hk with hk | hk; exact hno.1 hk; exact hno.2.1 hk))
            have HK10 : Hid (Keep K6 w6 (wr.setCell ⟨b, o + i, none⟩ (.int .u8 (IntKind.u8.wrap (y + 1))))) := Lib.hid (hk9.trans ((Chg.refl (fun k => k = b) wr).setCell (a := ⟨b, o + i, none⟩) (.inl rfl) _) (fun k _ e => by rw [e]; exact hno.2.2))
            have HSZ : Hid ((ys.set i (IntKind.u8.wrap (y + 1))).length = xn) := Lib.hid (by rw [List.length_set]; exact hyz)
            clear how ht9 hk9 hset hno hyz
            go_wp2
            go_roundw
            case rel => exact ⟨i + 1, _, rfl, hlt, HSET.out, HSZ.out, HT10.out, HK10.out⟩
            case measure => simp [intOf]; omega
          · have d0 : decide ((i : Int) < (xn : Int)) = false := decide_eq_false (by omega)
            have d0' : decide (i < xn) = false := decide_eq_false hlt
            clear how ht9 hk9 hyz
            go_wp2
            exact HFIN.out _ S2 A5 B5 _ rfl HT9.out HI2.out HD2.out HK9.out
    · have e1 : (x.kd == 1) = false := by rw [beq_eq_false_iff_ne]; exact hk1
      clear hk1
      by_cases hk2 : x.kd = 2
      · have e2 : (x.kd == 2) = true := by rw [hk2]; rfl
        clear hk2
        have HI2 : Hid (Inv (N + 1) 16777216 S) := Lib.hid (HI.out.mono (Nat.le_succ _))
        have HD2 := HD
        have HR1 := Lib.hid (H6.out.read HI.out x.a HSA.out)
        have HR2 := Lib.hid (fun (W : World) (hb : Below w6.heap.size w6 W) => (H6.out.below hb).rread HI.out (by have := HNB.out; omega) x.a HSA.out)
        unfold ReadPost ptrV at HR1
        unfold RReadPost ptrV at HR2
        generalize hrl : readL S x.a.data.toList = rl at *
        have HRLM : Hid (rl.length ≤ 9223372036854775807) := Lib.hid (by rw [← hrl]; exact readL_len HI.out _)
        clear hrl
        generalize ofF S x.a.data.toList = cd at *
        obtain ⟨rn, hrn⟩ : ∃ rn, rl.length = rn := ⟨_, rfl⟩
        have HRN := Lib.hid hrn
        rw [hrn] at HR1
        clear hrn
        have HQ7 := Lib.hid (fun W (hb : Below w6.heap.size w6 W) => (HQ.out W (Chg.of_below (S := fun k => ¬ K6 k) hb)).2.1)
        go_upto_region 14 with (go_at_call 14; refine HR1.out.mono ?_; rintro e w7 ⟨hb7, A9, rfl, ho7⟩)
        have HB7 := Lib.hid hb7
        have HO7 := Lib.hid ho7
        have q27 := HQ7.out w7 hb7
        clear hb7 ho7
        go_upto_region 15 with (go_at_call 45; refine (HR2.out w7 HB7.out).mono ?_; rintro e w8 ⟨rfl, hb8⟩)
        have HOW : Hid (OwnS w8 0 5 1 (.slice A9 rn rn) rn (rl.map (Value.int .u8))) := Lib.hid ((HO7.out.keptB hb8).base_ (Nat.zero_le _))
        have HB8 : Hid (Below w6.heap.size w6 w8) := Lib.hid (HB7.out.trans (hb8.mono HB7.out.size))
        have hcv := run_bstr w8 A9 rn rn rl HOW.out.ints HRN.out
        have HNO : Hid (∀ b, (Value.slice A9 rn rn).ownBlock = some b → ¬ A b ∧ ¬ B b ∧ ¬ K6 b) := Lib.hid (fun b hb => by
          have h1 := (HO7.out.lt b hb).1
          exact ⟨fun ha => by have := (H6.out.la b ha).2; omega, fun ha => by have := (H6.out.lb b ha).2; omega, fun h6 => by have := H6.out.lk b h6; omega⟩)
        have HT5 : Hid (Two K6 A B p r w8 S S) := Lib.hid (H6.out.below HB8.out)
        have HK5 : Hid (Keep K6 w6 w8) := Lib.hid (Chg.of_below HB8.out)
        have HYZ : Hid (rl.length = rn) := Lib.hid HRN.out
        have HNM : Hid (rn ≤ 9223372036854775807) := Lib.hid (by rw [← HRN.out]; exact HRLM.out)
        clear hb8 q27
        generalize strOfNums rl = st at *
        go_wp2
        go_loopw [15] (fun vi wz => ∃ (i : Nat) (ys : List Int), vi = .int .i64 (i : Int) ∧ i ≤ rn ∧ OwnS wz 0 5 1 (.slice A9 rn rn) rn (ys.map (Value.int .u8)) ∧ ys.length = rn ∧ Two K6 A B p r wz S S ∧ Keep K6 w6 wz) (fun vi _ => rn - (intOf vi).toNat)
        case atStart => exact ⟨0, _, rfl, Nat.zero_le _, HOW.out, HYZ.out, HT5.out, HK5.out⟩
        case round =>
          obtain ⟨i, ys, rfl, hi9, how, hyz, ht9, hk9⟩ := hrel
          have HOW9 := Lib.hid how
          have HYZ9 := Lib.hid hyz
          have HT9 := Lib.hid ht9
          have HK9 := Lib.hid hk9
          have hnn9 := HNM.out
          by_cases hlt : i < rn
          · obtain ⟨b, o, y, rfl, hy, hfz, hset⟩ := own_step how hyz hlt
            have d0 : decide ((i : Int) < (rn : Int)) = true := decide_eq_true (by omega)
            have d0' : decide (i < rn) = true := decide_eq_true hlt
            have HSET := Lib.hid (hset (IntKind.u8.wrap (y + 1)))
            have hno := HNO.out b rfl
            have HT10 := Lib.hid (ht9.same ((Chg.refl (fun k => k = b) wr).setCell (a := ⟨b, o + i, none⟩) (.inl rfl) (.int .u8 (IntKind.u8.wrap (y + 1)))) (fun k hk e => by rw [e] at hk; rcases hk with hk | hk; exact hno.1 hk; exact hno.2.1 hk))
            have HK10 : Hid (Keep K6 w6 (wr.setCell ⟨b, o + i, none⟩ (.int .u8 (IntKind.u8.wrap (y + 1))))) := Lib.hid (hk9.trans ((Chg.refl (fun k => k = b) wr).setCell (a := ⟨b, o + i, none⟩) (.inl rfl) _) (fun k _ e => by rw [e]; exact hno.2.2))
            have HSZ : Hid ((ys.set i (IntKind.u8.wrap (y + 1))).length = rn) := Lib.hid (by rw [List.length_set]; exact hyz)
            clear how ht9 hk9 hset hno hyz
            go_wp2
            go_roundw
            case rel => exact ⟨i + 1, _, rfl, hlt, HSET.out, HSZ.out, HT10.out, HK10.out⟩
            case measure => simp [intOf]; omega
          · have d0 : decide ((i : Int) < (rn : Int)) = false := decide_eq_false (by omega)
            have d0' : decide (i < rn) = false := decide_eq_false hlt
            clear how ht9 hk9 hyz
            go_wp2
            exact HFIN.out _ S A B _ rfl HT9.out HI2.out HD2.out HK9.out
      · have e2 : (x.kd == 2) = false := by rw [beq_eq_false_iff_ne]; exact hk2
        clear hk2
        by_cases hk3 : x.kd = 3
        · have e3 : (x.kd == 3) = true := by rw [hk3]; rfl
          clear hk3
          have HI2 : Hid (Inv (N + 1) 16777216 (syncF S x.a.data.toList).2) := Lib.hid ((HI.out.sync _).mono (Nat.le_succ _))
          have HD2 : Hid (Dv (syncF S x.a.data.toList).2) := Lib.hid (HD.out.sync _)
          obtain ⟨cd, hcd⟩ : ∃ cd, cd = (syncF S x.a.data.toList).1 := ⟨_, rfl⟩
          obtain ⟨S2, hS2⟩ : ∃ S2, S2 = (syncF S x.a.data.toList).2 := ⟨_, rfl⟩
          have HCD : Hid ((syncF S x.a.data.toList).1 = cd) := Lib.hid hcd.symm
          have HS2 := Lib.hid hS2
          rw [← hS2] at HI2 HD2
          clear hcd hS2
          go_upto_region 22 with (fail)
          refine wp_region_ph (by kernel_rfl) [3, 7] [.span 0 0, .span 0 0, .span 0 0, .phase 0, .span 0 1, .span 0 1, .span 0 1, .phase 1, .span 2 2, .span 2 2] [fun z9 => z9 = .pointer (some ⟨p, 0, none⟩), fun z9 => z9 = .pointer (some ⟨og, 2, none⟩), fun z9 => z9 = .string x.a, fun z9 => z9 = .int .i64 cd, fun z9 => z9 = .pointer (some ⟨r, 0, none⟩), fun z9 => z9 = .pointer (some ⟨og, 2, none⟩), fun z9 => z9 = .string x.a, fun z9 => z9 = .int .i64 cd, fun z9 => z9 = .bool true, fun z9 => z9 = .bool true] (IDo K6 A B p r w6 S S2) (by kernel_rfl) (by kernel_rfl) (by kernel_rfl) (by kernel_rfl) (by kernel_rfl) (by kernel_rfl) rfl rfl ((show w6.drew = w6.drew from rfl)) ?steps ?done
          case steps =>
            refine ⟨?_, ?_, ?_, ?_, ?_, ?_, ?_, ?_, ?_, ?_, trivial⟩
            · intro us au w1 k0 hlo hhi ha hd hst hI
              obtain rfl : k0 = 0 := by omega
              have q0 := slot_far (t := 0) (v := .pointer (some ⟨p, 0, none⟩)) ha (by kernel_rfl) (by kernel_rfl)
              have p0 := slot_norm q0
              clear ha hd hst
              exact StepI.pure (v := .pointer (some ⟨p, 0, none⟩)) rfl rfl (by go_simp) ⟨rfl, hI⟩
            · intro us au w1 k1 hlo hhi ha hd hst hI
              obtain rfl : k1 = 0 := by omega
              have q5 := slot_far (t := 5) (v := .pointer (some ⟨og, 0, none⟩)) ha (by kernel_rfl) (by kernel_rfl)
              have p5 := slot_norm q5
              clear ha hd hst
              exact StepI.pure (v := .pointer (some ⟨og, 2, none⟩)) rfl rfl (by go_simp) ⟨rfl, hI⟩
            · intro us au w1 k2 hlo hhi ha hd hst hI
              obtain rfl : k2 = 0 := by omega
              have e1 := hd 1 _ (by kernel_rfl) rfl
              have q102 := slot_at (t := 102) 1 ha (by kernel_rfl) (by kernel_rfl) (by kernel_rfl) e1
              have p102 := slot_norm q102
              clear ha hd hst
              have kk := (HQ.out _ hI.keep).2.1
              exact StepI.pure (v := .string x.a) rfl rfl (by go_simp) ⟨rfl, hI⟩
            · intro us au w1 ha hd hst hI
              have e0 := hd 0 _ (by kernel_rfl) rfl
              have e2 := hd 2 _ (by kernel_rfl) rfl
              have q101 := slot_at (t := 101) 0 ha (by kernel_rfl) (by kernel_rfl) (by kernel_rfl) e0
              have p101 := slot_norm q101
              have q103 := slot_at (t := 103) 2 ha (by kernel_rfl) (by kernel_rfl) (by kernel_rfl) e2
              have p103 := slot_norm q103
              clear ha hd hst
              obtain rfl : w1 = w6.drew := hI
              refine StepI.call (f := 20) (args := #[.pointer (some ⟨p, 0, none⟩), .string x.a]) rfl rfl (by go_simp) ?_
              refine (H6.out.drew.sync HI.out x.a HSA.out).mono ?_
              rintro e w5 ⟨rfl, ht, hk⟩
              exact ⟨_, rfl, congrArg (Value.int .i64) HCD.out, by rw [HS2.out]; exact ht, ((Chg.refl _ _).drew).trans hk (fun _ _ h => h)⟩
            · intro us au w1 k4 hlo hhi ha hd hst hI
              have q1 := slot_far (t := 1) (v := .pointer (some ⟨r, 0, none⟩)) ha (by kernel_rfl) (by kernel_rfl)
              have p1 := slot_norm q1
              clear ha hd hst
              exact StepI.pure (v := .pointer (some ⟨r, 0, none⟩)) rfl rfl (by go_simp) ⟨rfl, hI⟩
            · intro us au w1 k5 hlo hhi ha hd hst hI
              have q5 := slot_far (t := 5) (v := .pointer (some ⟨og, 0, none⟩)) ha (by kernel_rfl) (by kernel_rfl)
              have p5 := slot_norm q5
              clear ha hd hst
              exact StepI.pure (v := .pointer (some ⟨og, 2, none⟩)) rfl rfl (by go_simp) ⟨rfl, hI⟩
            · intro us au w1 k6 hlo hhi ha hd hst hI
              have e5 := hd 5 _ (by kernel_rfl) rfl
              have q106 := slot_at (t := 106) 5 ha (by kernel_rfl) (by kernel_rfl) (by kernel_rfl) e5
              have p106 := slot_norm q106
              clear ha hd hst
              have kk := (HQ.out _ hI.keep).2.1
              exact StepI.pure (v := .string x.a) rfl rfl (by go_simp) ⟨rfl, hI⟩
            · intro us au w1 ha hd hst hI
              have e4 := hd 4 _ (by kernel_rfl) rfl
              have e6 := hd 6 _ (by kernel_rfl) rfl
              have q105 := slot_at (t := 105) 4 ha (by kernel_rfl) (by kernel_rfl) (by kernel_rfl) e4
              have p105 := slot_norm q105
              have q107 := slot_at (t := 107) 6 ha (by kernel_rfl) (by kernel_rfl) (by kernel_rfl) e6
              have p107 := slot_norm q107
              clear ha hd hst
              obtain ⟨⟨A5, ht⟩, hk5⟩ := hI
              refine StepI.call (f := 46) (args := #[.pointer (some ⟨r, 0, none⟩), .string x.a]) rfl rfl (by go_simp) ?_
              refine (ht.rsync HI.out (by have := HNB.out; omega) x.a HSA.out).mono ?_
              rintro e w5 ⟨rfl, ⟨B5, ht5⟩, hk⟩
              exact ⟨_, rfl, congrArg (Value.int .i64) HCD.out, ⟨A5, B5, by rw [← HS2.out] at ht5; exact ht5⟩, hk5.trans hk (fun _ _ h => h)⟩
            · intro us au w1 k8 hlo hhi ha hd hst hI
              obtain rfl : k8 = 2 := by omega
              have e3 := hd 3 _ (by kernel_rfl) rfl
              have e7 := hd 7 _ (by kernel_rfl) rfl
              have q104 := slot_at (t := 104) 3 ha (by kernel_rfl) (by kernel_rfl) (by kernel_rfl) e3
              have p104 := slot_norm q104
              have q108 := slot_at (t := 108) 7 ha (by kernel_rfl) (by kernel_rfl) (by kernel_rfl) e7
              have p108 := slot_norm q108
              clear ha hd hst
              exact StepI.pure (v := .bool true) rfl rfl (by go_simp) ⟨rfl, hI⟩
            · intro us au w1 k9 hlo hhi ha hd hst hI
              obtain rfl : k9 = 2 := by omega
              have e8 := hd 8 _ (by kernel_rfl) rfl
              have q109 := slot_at (t := 109) 8 ha (by kernel_rfl) (by kernel_rfl) (by kernel_rfl) e8
              have p109 := slot_norm q109
              clear ha hd hst
              exact StepI.pure (v := .bool true) rfl rfl (by go_simp) ⟨rfl, hI⟩
          case done =>
            intro us w1 hI hd
            obtain ⟨⟨A5, B5, ht5⟩, hk5⟩ : (∃ A5 B5, Two K6 A5 B5 p r w1 S2 S2) ∧ Keep K6 w6 w1 := hI
            have HT5 := Lib.hid ht5
            have HK5 := Lib.hid hk5
            clear ht5 hk5
            have eL := hd 9 _ (by decide) rfl
            clear hd
            simp only [putAll]
            go_simp
            go_wp2
            exact HFIN.out _ S2 A5 B5 _ rfl HT5.out HI2.out HD2.out HK5.out
        · have e3 : (x.kd == 3) = false := by rw [beq_eq_false_iff_ne]; exact hk3
          clear hk3
          by_cases hk4 : x.kd = 4
          · have e4 : (x.kd == 4) = true := by rw [hk4]; rfl
            clear hk4
            have HI2 : Hid (Inv (N + 1) 16777216 (renameF S x.a.data.toList x.b.data.toList).2) := Lib.hid (HI.out.rename _ _)
            have HD2 : Hid (Dv (renameF S x.a.data.toList x.b.data.toList).2) := Lib.hid (HD.out.rename _ _)
            obtain ⟨cd, hcd⟩ : ∃ cd, cd = (renameF S x.a.data.toList x.b.data.toList).1 := ⟨_, rfl⟩
            obtain ⟨S2, hS2⟩ : ∃ S2, S2 = (renameF S x.a.data.toList x.b.data.toList).2 := ⟨_, rfl⟩
            have HCD : Hid ((renameF S x.a.data.toList x.b.data.toList).1 = cd) := Lib.hid hcd.symm
            have HS2 := Lib.hid hS2
            rw [← hS2] at HI2 HD2
            clear hcd hS2
            go_upto_region 24 with (fail)
            refine wp_region_ph (by kernel_rfl) [5, 11] [.span 0 0, .span 0 0, .span 0 0, .span 0 0, .span 0 0, .phase 0, .span 0 1, .span 0 1, .span 0 1, .span 0 1, .span 0 1, .phase 1, .span 2 2, .span 2 2] [fun z9 => z9 = .pointer (some ⟨p, 0, none⟩), fun z9 => z9 = .pointer (some ⟨og, 2, none⟩), fun z9 => z9 = .string x.a, fun z9 => z9 = .pointer (some ⟨og, 3, none⟩), fun z9 => z9 = .string x.b, fun z9 => z9 = .int .i64 cd, fun z9 => z9 = .pointer (some ⟨r, 0, none⟩), fun z9 => z9 = .pointer (some ⟨og, 2, none⟩), fun z9 => z9 = .string x.a, fun z9 => z9 = .pointer (some ⟨og, 3, none⟩), fun z9 => z9 = .string x.b, fun z9 => z9 = .int .i64 cd, fun z9 => z9 = .bool true, fun z9 => z9 = .bool true] (IDo K6 A B p r w6 S S2) (by kernel_rfl) (by kernel_rfl) (by kernel_rfl) (by kernel_rfl) (by kernel_rfl) (by kernel_rfl) rfl rfl ((show w6.drew = w6.drew from rfl)) ?steps ?done
            case steps =>
              refine ⟨?_, ?_, ?_, ?_, ?_, ?_, ?_, ?_, ?_, ?_, ?_, ?_, ?_, ?_, trivial⟩
              · intro us au w1 k0 hlo hhi ha hd hst hI
                obtain rfl : k0 = 0 := by omega
                have q0 := slot_far (t := 0) (v := .pointer (some ⟨p, 0, none⟩)) ha (by kernel_rfl) (by kernel_rfl)
                have p0 := slot_norm q0
                clear ha hd hst
                exact StepI.pure (v := .pointer (some ⟨p, 0, none⟩)) rfl rfl (by go_simp) ⟨rfl, hI⟩
              · intro us au w1 k1 hlo hhi ha hd hst hI
                obtain rfl : k1 = 0 := by omega
                have q5 := slot_far (t := 5) (v := .pointer (some ⟨og, 0, none⟩)) ha (by kernel_rfl) (by kernel_rfl)
                have p5 := slot_norm q5
                clear ha hd hst
                exact StepI.pure (v := .pointer (some ⟨og, 2, none⟩)) rfl rfl (by go_simp) ⟨rfl, hI⟩
              · intro us au w1 k2 hlo hhi ha hd hst hI
                obtain rfl : k2 = 0 := by omega
                have e1 := hd 1 _ (by kernel_rfl) rfl
                have q113 := slot_at (t := 113) 1 ha (by kernel_rfl) (by kernel_rfl) (by kernel_rfl) e1
                have p113 := slot_norm q113
                clear ha hd hst
                have kk := (HQ.out _ hI.keep).2.1
                exact StepI.pure (v := .string x.a) rfl rfl (by go_simp) ⟨rfl, hI⟩
              · intro us au w1 k3 hlo hhi ha hd hst hI
                obtain rfl : k3 = 0 := by omega
                have q5 := slot_far (t := 5) (v := .pointer (some ⟨og, 0, none⟩)) ha (by kernel_rfl) (by kernel_rfl)
                have p5 := slot_norm q5
                clear ha hd hst
                exact StepI.pure (v := .pointer (some ⟨og, 3, none⟩)) rfl rfl (by go_simp) ⟨rfl, hI⟩
              · intro us au w1 k4 hlo hhi ha hd hst hI
                obtain rfl : k4 = 0 := by omega
                have e3 := hd 3 _ (by kernel_rfl) rfl
                have q115 := slot_at (t := 115) 3 ha (by kernel_rfl) (by kernel_rfl) (by kernel_rfl) e3
                have p115 := slot_norm q115
                clear ha hd hst
                have kk := (HQ.out _ hI.keep).2.2.1
                exact StepI.pure (v := .string x.b) rfl rfl (by go_simp) ⟨rfl, hI⟩
              · intro us au w1 ha hd hst hI
                have e0 := hd 0 _ (by kernel_rfl) rfl
                have e2 := hd 2 _ (by kernel_rfl) rfl
                have e4 := hd 4 _ (by kernel_rfl) rfl
                have q112 := slot_at (t := 112) 0 ha (by kernel_rfl) (by kernel_rfl) (by kernel_rfl) e0
                have p112 := slot_norm q112
                have q114 := slot_at (t := 114) 2 ha (by kernel_rfl) (by kernel_rfl) (by kernel_rfl) e2
                have p114 := slot_norm q114
                have q116 := slot_at (t := 116) 4 ha (by kernel_rfl) (by kernel_rfl) (by kernel_rfl) e4
                have p116 := slot_norm q116
                clear ha hd hst
                obtain rfl : w1 = w6.drew := hI
                refine StepI.call (f := 17) (args := #[.pointer (some ⟨p, 0, none⟩), .string x.a, .string x.b]) rfl rfl (by go_simp) ?_
                refine (H6.out.drew.rename HI.out (by have := HNB.out; omega) x.a x.b HSA.out HSB.out).mono ?_
                rintro e w5 ⟨rfl, ht, hk⟩
                exact ⟨_, rfl, congrArg (Value.int .i64) HCD.out, by rw [HS2.out]; exact ht, ((Chg.refl _ _).drew).trans hk (fun _ _ h => h)⟩
              · intro us au w1 k6 hlo hhi ha hd hst hI
                have q1 := slot_far (t := 1) (v := .pointer (some ⟨r, 0, none⟩)) ha (by kernel_rfl) (by kernel_rfl)
                have p1 := slot_norm q1
                clear ha hd hst
                exact StepI.pure (v := .pointer (some ⟨r, 0, none⟩)) rfl rfl (by go_simp) ⟨rfl, hI⟩
              · intro us au w1 k7 hlo hhi ha hd hst hI
                have q5 := slot_far (t := 5) (v := .pointer (some ⟨og, 0, none⟩)) ha (by kernel_rfl) (by kernel_rfl)
                have p5 := slot_norm q5
                clear ha hd hst
                exact StepI.pure (v := .pointer (some ⟨og, 2, none⟩)) rfl rfl (by go_simp) ⟨rfl, hI⟩
              · intro us au w1 k8 hlo hhi ha hd hst hI
                have e7 := hd 7 _ (by kernel_rfl) rfl
                have q119 := slot_at (t := 119) 7 ha (by kernel_rfl) (by kernel_rfl) (by kernel_rfl) e7
                have p119 := slot_norm q119
                clear ha hd hst
                have kk := (HQ.out _ hI.keep).2.1
                exact StepI.pure (v := .string x.a) rfl rfl (by go_simp) ⟨rfl, hI⟩
              · intro us au w1 k9 hlo hhi ha hd hst hI
                have q5 := slot_far (t := 5) (v := .pointer (some ⟨og, 0, none⟩)) ha (by kernel_rfl) (by kernel_rfl)
                have p5 := slot_norm q5
                clear ha hd hst
                exact StepI.pure (v := .pointer (some ⟨og, 3, none⟩)) rfl rfl (by go_simp) ⟨rfl, hI⟩
              · intro us au w1 k10 hlo hhi ha hd hst hI
                have e9 := hd 9 _ (by kernel_rfl) rfl
                have q121 := slot_at (t := 121) 9 ha (by kernel_rfl) (by kernel_rfl) (by kernel_rfl) e9
                have p121 := slot_norm q121
                clear ha hd hst
                have kk := (HQ.out _ hI.keep).2.2.1
                exact StepI.pure (v := .string x.b) rfl rfl (by go_simp) ⟨rfl, hI⟩
              · intro us au w1 ha hd hst hI
                have e6 := hd 6 _ (by kernel_rfl) rfl
                have e8 := hd 8 _ (by kernel_rfl) rfl
                have e10 := hd 10 _ (by kernel_rfl) rfl
                have q118 := slot_at (t := 118) 6 ha (by kernel_rfl) (by kernel_rfl) (by kernel_rfl) e6
                have p118 := slot_norm q118
                have q120 := slot_at (t := 120) 8 ha (by kernel_rfl) (by kernel_rfl) (by kernel_rfl) e8
                have p120 := slot_norm q120
                have q122 := slot_at (t := 122) 10 ha (by kernel_rfl) (by kernel_rfl) (by kernel_rfl) e10
                have p122 := slot_norm q122
                clear ha hd hst
                obtain ⟨⟨A5, ht⟩, hk5⟩ := hI
                refine StepI.call (f := 47) (args := #[.pointer (some ⟨r, 0, none⟩), .string x.a, .string x.b]) rfl rfl (by go_simp) ?_
                refine (ht.rrename HI.out (by have := HNB.out; omega) x.a x.b HSA.out HSB.out).mono ?_
                rintro e w5 ⟨rfl, ⟨B5, ht5⟩, hk⟩
                exact ⟨_, rfl, congrArg (Value.int .i64) HCD.out, ⟨A5, B5, by rw [← HS2.out] at ht5; exact ht5⟩, hk5.trans hk (fun _ _ h => h)⟩
              · intro us au w1 k12 hlo hhi ha hd hst hI
                obtain rfl : k12 = 2 := by omega
                have e5 := hd 5 _ (by kernel_rfl) rfl
                have e11 := hd 11 _ (by kernel_rfl) rfl
                have q117 := slot_at (t := 117) 5 ha (by kernel_rfl) (by kernel_rfl) (by kernel_rfl) e5
                have p117 := slot_norm q117
                have q123 := slot_at (t := 123) 11 ha (by kernel_rfl) (by kernel_rfl) (by kernel_rfl) e11
                have p123 := slot_norm q123
                clear ha hd hst
                exact StepI.pure (v := .bool true) rfl rfl (by go_simp) ⟨rfl, hI⟩
              · intro us au w1 k13 hlo hhi ha hd hst hI
                obtain rfl : k13 = 2 := by omega
                have e12 := hd 12 _ (by kernel_rfl) rfl
                have q124 := slot_at (t := 124) 12 ha (by kernel_rfl) (by kernel_rfl) (by kernel_rfl) e12
                have p124 := slot_norm q124
                clear ha hd hst
                exact StepI.pure (v := .bool true) rfl rfl (by go_simp) ⟨rfl, hI⟩
            case done =>
              intro us w1 hI hd
              obtain ⟨⟨A5, B5, ht5⟩, hk5⟩ : (∃ A5 B5, Two K6 A5 B5 p r w1 S2 S2) ∧ Keep K6 w6 w1 := hI
              have HT5 := Lib.hid ht5
              have HK5 := Lib.hid hk5
              clear ht5 hk5
              have eL := hd 13 _ (by decide) rfl
              clear hd
              simp only [putAll]
              go_simp
              go_wp2
              exact HFIN.out _ S2 A5 B5 _ rfl HT5.out HI2.out HD2.out HK5.out
          · have e4 : (x.kd == 4) = false := by rw [beq_eq_false_iff_ne]; exact hk4
            clear hk4
            by_cases hk5 : x.kd = 5
            · have e5 : (x.kd == 5) = true := by rw [hk5]; rfl
              clear hk5
              have HI2 : Hid (Inv (N + 1) 16777216 (removeF S x.a.data.toList).2) := Lib.hid (HI.out.remove _)
              have HD2 : Hid (Dv (removeF S x.a.data.toList).2) := Lib.hid (HD.out.remove _)
              obtain ⟨cd, hcd⟩ : ∃ cd, cd = (removeF S x.a.data.toList).1 := ⟨_, rfl⟩
              obtain ⟨S2, hS2⟩ : ∃ S2, S2 = (removeF S x.a.data.toList).2 := ⟨_, rfl⟩
              have HCD : Hid ((removeF S x.a.data.toList).1 = cd) := Lib.hid hcd.symm
              have HS2 := Lib.hid hS2
              rw [← hS2] at HI2 HD2
              clear hcd hS2
              go_upto_region 26 with (fail)
              refine wp_region_ph (by kernel_rfl) [3, 7] [.span 0 0, .span 0 0, .span 0 0, .phase 0, .span 0 1, .span 0 1, .span 0 1, .phase 1, .span 2 2, .span 2 2] [fun z9 => z9 = .pointer (some ⟨p, 0, none⟩), fun z9 => z9 = .pointer (some ⟨og, 2, none⟩), fun z9 => z9 = .string x.a, fun z9 => z9 = .int .i64 cd, fun z9 => z9 = .pointer (some ⟨r, 0, none⟩), fun z9 => z9 = .pointer (some ⟨og, 2, none⟩), fun z9 => z9 = .string x.a, fun z9 => z9 = .int .i64 cd, fun z9 => z9 = .bool true, fun z9 => z9 = .bool true] (IDo K6 A B p r w6 S S2) (by kernel_rfl) (by kernel_rfl) (by kernel_rfl) (by kernel_rfl) (by kernel_rfl) (by kernel_rfl) rfl rfl ((show w6.drew = w6.drew from rfl)) ?steps ?done
              case steps =>
                refine ⟨?_, ?_, ?_, ?_, ?_, ?_, ?_, ?_, ?_, ?_, trivial⟩
                · intro us au w1 k0 hlo hhi ha hd hst hI
                  obtain rfl : k0 = 0 := by omega
                  have q0 := slot_far (t := 0) (v := .pointer (some ⟨p, 0, none⟩)) ha (by kernel_rfl) (by kernel_rfl)
                  have p0 := slot_norm q0
                  clear ha hd hst
                  exact StepI.pure (v := .pointer (some ⟨p, 0, none⟩)) rfl rfl (by go_simp) ⟨rfl, hI⟩
                · intro us au w1 k1 hlo hhi ha hd hst hI
                  obtain rfl : k1 = 0 := by omega
                  have q5 := slot_far (t := 5) (v := .pointer (some ⟨og, 0, none⟩)) ha (by kernel_rfl) (by kernel_rfl)
                  have p5 := slot_norm q5
                  clear ha hd hst
                  exact StepI.pure (v := .pointer (some ⟨og, 2, none⟩)) rfl rfl (by go_simp) ⟨rfl, hI⟩
                · intro us au w1 k2 hlo hhi ha hd hst hI
                  obtain rfl : k2 = 0 := by omega
                  have e1 := hd 1 _ (by kernel_rfl) rfl
                  have q128 := slot_at (t := 128) 1 ha (by kernel_rfl) (by kernel_rfl) (by kernel_rfl) e1
                  have p128 := slot_norm q128
                  clear ha hd hst
                  have kk := (HQ.out _ hI.keep).2.1
                  exact StepI.pure (v := .string x.a) rfl rfl (by go_simp) ⟨rfl, hI⟩
                · intro us au w1 ha hd hst hI
                  have e0 := hd 0 _ (by kernel_rfl) rfl
                  have e2 := hd 2 _ (by kernel_rfl) rfl
                  have q127 := slot_at (t := 127) 0 ha (by kernel_rfl) (by kernel_rfl) (by kernel_rfl) e0
                  have p127 := slot_norm q127
                  have q129 := slot_at (t := 129) 2 ha (by kernel_rfl) (by kernel_rfl) (by kernel_rfl) e2
                  have p129 := slot_norm q129
                  clear ha hd hst
                  obtain rfl : w1 = w6.drew := hI
                  refine StepI.call (f := 18) (args := #[.pointer (some ⟨p, 0, none⟩), .string x.a]) rfl rfl (by go_simp) ?_
                  refine (H6.out.drew.remove HI.out (by have := HNB.out; omega) x.a HSA.out).mono ?_
                  rintro e w5 ⟨rfl, ht, hk⟩
                  exact ⟨_, rfl, congrArg (Value.int .i64) HCD.out, by rw [HS2.out]; exact ht, ((Chg.refl _ _).drew).trans hk (fun _ _ h => h)⟩
                · intro us au w1 k4 hlo hhi ha hd hst hI
                  have q1 := slot_far (t := 1) (v := .pointer (some ⟨r, 0, none⟩)) ha (by kernel_rfl) (by kernel_rfl)
                  have p1 := slot_norm q1
                  clear ha hd hst
                  exact StepI.pure (v := .pointer (some ⟨r, 0, none⟩)) rfl rfl (by go_simp) ⟨rfl, hI⟩
                · intro us au w1 k5 hlo hhi ha hd hst hI
                  have q5 := slot_far (t := 5) (v := .pointer (some ⟨og, 0, none⟩)) ha (by kernel_rfl) (by kernel_rfl)
                  have p5 := slot_norm q5
                  clear ha hd hst
                  exact StepI.pure (v := .pointer (some ⟨og, 2, none⟩)) rfl rfl (by go_simp) ⟨rfl, hI⟩
                · intro us au w1 k6 hlo hhi ha hd hst hI
                  have e5 := hd 5 _ (by kernel_rfl) rfl
                  have q132 := slot_at (t := 132) 5 ha (by kernel_rfl) (by kernel_rfl) (by kernel_rfl) e5
                  have p132 := slot_norm q132
                  clear ha hd hst
                  have kk := (HQ.out _ hI.keep).2.1
                  exact StepI.pure (v := .string x.a) rfl rfl (by go_simp) ⟨rfl, hI⟩
                · intro us au w1 ha hd hst hI
                  have e4 := hd 4 _ (by kernel_rfl) rfl
                  have e6 := hd 6 _ (by kernel_rfl) rfl
                  have q131 := slot_at (t := 131) 4 ha (by kernel_rfl) (by kernel_rfl) (by kernel_rfl) e4
                  have p131 := slot_norm q131
                  have q133 := slot_at (t := 133) 6 ha (by kernel_rfl) (by kernel_rfl) (by kernel_rfl) e6
                  have p133 := slot_norm q133
                  clear ha hd hst
                  obtain ⟨⟨A5, ht⟩, hk5⟩ := hI
                  refine StepI.call (f := 48) (args := #[.pointer (some ⟨r, 0, none⟩), .string x.a]) rfl rfl (by go_simp) ?_
                  refine (ht.rremove HI.out (by have := HNB.out; omega) x.a HSA.out).mono ?_
                  rintro e w5 ⟨rfl, ⟨B5, ht5⟩, hk⟩
                  exact ⟨_, rfl, congrArg (Value.int .i64) HCD.out, ⟨A5, B5, by rw [← HS2.out] at ht5; exact ht5⟩, hk5.trans hk (fun _ _ h => h)⟩
                · intro us au w1 k8 hlo hhi ha hd hst hI
                  obtain rfl : k8 = 2 := by omega
                  have e3 := hd 3 _ (by kernel_rfl) rfl
                  have e7 := hd 7 _ (by kernel_rfl) rfl
                  have q130 := slot_at (t := 130) 3 ha (by kernel_rfl) (by kernel_rfl) (by kernel_rfl) e3
                  have p130 := slot_norm q130
                  have q134 := slot_at (t := 134) 7 ha (by kernel_rfl) (by kernel_rfl) (by kernel_rfl) e7
                  have p134 := slot_norm q134
                  clear ha hd hst
                  exact StepI.pure (v := .bool true) rfl rfl (by go_simp) ⟨rfl, hI⟩
                · intro us au w1 k9 hlo hhi ha hd hst hI
                  obtain rfl : k9 = 2 := by omega
                  have e8 := hd 8 _ (by kernel_rfl) rfl
                  have q135 := slot_at (t := 135) 8 ha (by kernel_rfl) (by kernel_rfl) (by kernel_rfl) e8
                  have p135 := slot_norm q135
                  clear ha hd hst
                  exact StepI.pure (v := .bool true) rfl rfl (by go_simp) ⟨rfl, hI⟩
              case done =>
                intro us w1 hI hd
                obtain ⟨⟨A5, B5, ht5⟩, hk5⟩ : (∃ A5 B5, Two K6 A5 B5 p r w1 S2 S2) ∧ Keep K6 w6 w1 := hI
                have HT5 := Lib.hid ht5
                have HK5 := Lib.hid hk5
                clear ht5 hk5
                have eL := hd 9 _ (by decide) rfl
                clear hd
                simp only [putAll]
                go_simp
                go_wp2
                exact HFIN.out _ S2 A5 B5 _ rfl HT5.out HI2.out HD2.out HK5.out
            · have e5 : (x.kd == 5) = false := by rw [beq_eq_false_iff_ne]; exact hk5
              clear hk5
              by_cases hk6 : x.kd = 6
              · have e6 : (x.kd == 6) = true := by rw [hk6]; rfl
                clear hk6
                have HC := Lib.hid (H6.out.syncNames HI.out)
                have HI2 : Hid (Inv (N + 1) 16777216 (syncNamesF S).2) := Lib.hid (HI.out.syncNames.mono (Nat.le_succ _))
                have HD2 := Lib.hid (HD.out.syncNames HI.out)
                unfold TwA ptrV at HC
                generalize hcd : syncNamesF S = cd at *
                have HCD := Lib.hid hcd
                clear hcd
                go_upto_region 28 with (fail)
                go_wp2_with (first | (have hx := ht6; go_at_call 49; refine (ht6.rsyncNames HI.out).mono ?_; rintro e w8 ⟨rfl, ⟨B5, ht5⟩, hk5⟩; rw [HCD.out] at ht5 ⊢) | (go_at_call 21; refine HC.out.mono ?_; rintro e w7 ⟨rfl, ⟨A5, ht6⟩, hk6⟩))
                exact HFIN.out _ cd.2 A5 B5 _ rfl ht5 HI2.out HD2.out (hk6.trans hk5 (fun _ _ h => h))
              · have e6 : (x.kd == 6) = false := by rw [beq_eq_false_iff_ne]; exact hk6
                clear hk6
                by_cases hk7 : x.kd = 7
                · have e7 : (x.kd == 7) = true := by rw [hk7]; rfl
                  clear hk7
                  have HC := Lib.hid (H6.out.crash HI.out (by have := HNB.out; omega) x.nn x.B x.ys.length x.cB x.ys HYI.out rfl HYL.out (fun hl b o e ha => (H6.out.la b ha).1 (HKB6.out hl b o e)))
                  have HI2 : Hid (Inv (N + 1) 16777216 (crashF S x.nn x.ys)) := Lib.hid ((HI.out.crash x.nn x.ys).mono (Nat.le_succ _))
                  have HD2 := Lib.hid (HD.out.crash x.nn x.ys)
                  unfold ptrV at HC
                  go_upto_region 31 with (go_at_call 12; refine HC.out.mono ?_; rintro e w7 ⟨rfl, ⟨A5, ht6⟩, hk6⟩)
                  have y1 := (HQ.out _ hk6).1
                  have y5 := (HQ.out _ hk6).2.2.2.2
                  have HC2 := Lib.hid (ht6.rcrash HI.out HD.out (by have := HNB.out; omega) x.nn x.B x.ys.length x.cB x.ys (hk6.ints HYI.out HKB6.out) rfl HYL.out (fun hl b o e ha => (ht6.lb b ha).1 (HKB6.out hl b o e)))
                  unfold ptrV at HC2
                  have HK6b := Lib.hid hk6
                  clear hk6 ht6 HC
                  go_wp2_with (go_at_call 50; refine HC2.out.mono ?_; rintro e w8 ⟨rfl, ⟨B5, ht5⟩, hk5⟩)
                  exact HFIN.out _ _ A5 B5 _ rfl ht5 HI2.out HD2.out (HK6b.out.trans hk5 (fun _ _ h => h))
                · have e7 : (x.kd == 7) = false := by rw [beq_eq_false_iff_ne]; exact hk7
                  clear hk7
                  by_cases hk8 : x.kd = 8
                  · have e8 : (x.kd == 8) = true := by rw [hk8]; rfl
                    clear hk8
                    have HC := Lib.hid (H6.out.fuse x.nn)
                    have HI2 : Hid (Inv (N + 1) 16777216 (fuseF S x.nn)) := Lib.hid ((HI.out.fuse HNN.out).mono (Nat.le_succ _))
                    have HD2 := Lib.hid (HD.out.fuse x.nn)
                    unfold ptrV at HC
                    go_upto_region 34 with (go_at_call 22; refine HC.out.mono ?_; rintro e w7 ⟨rfl, ⟨A5, ht6⟩, hk6⟩)
                    have y1 := (HQ.out _ hk6).1
                    obtain ⟨z5, f5⟩ := ht6.rfuseC
                    obtain ⟨⟨B5, ht5⟩, hk5⟩ := ht6.rfuse x.nn
                    have HK6b := Lib.hid (hk6.trans hk5 (fun _ _ h => h))
                    have HT5 := Lib.hid ht5
                    clear hk6 ht6 HC hk5 ht5
                    generalize hmx : max x.nn (-1) = mx at *
                    go_wp2
                    exact HFIN.out _ _ A5 B5 _ rfl HT5.out HI2.out HD2.out HK6b.out
                  · have e8 : (x.kd == 8) = false := by rw [beq_eq_false_iff_ne]; exact hk8
                    clear hk8
                    go_wp2
                    exact HFIN.out _ S A B _ rfl H6.out (HI.out.mono (Nat.le_succ _)) HD.out (Chg.refl _ _)
end Go.Proofs.Ytmoaabjiokjjlaa
namespace Go.Proofs.Ytmoaabjiokjjlaa
open Go.RowKit Go.Maps
set_option linter.unusedVariables false
set_option linter.unusedSimpArgs false

theorem listF_len {N : Nat} {S : Fs} (hI : Inv N 16777216 S) (p : Nm) : (listF S p).length ≤ N := by
  unfold listF
  split
  · simp
  · refine Nat.le_trans (List.length_filter_le _ _) ?_
    simpa using hI.lenNow
theorem listF_short {N : Nat} {S : Fs} (hI : Inv N 16777216 S) (hD : Dv S) (p : Nm) : ∀ n ∈ listF S p, n.length ≤ 200 := by
  intro n hn
  unfold listF at hn
  split at hn
  · cases hn
  · obtain ⟨x, hx, rfl⟩ := List.mem_map.1 (List.mem_filter.1 hn).1
    exact hD.now hI x hx
/-- While the two are held against one another. -/
def ISm (w1 : World) (L : List Nm) (ln : Nat) : List Value → World → Prop
  | [], W => Below w1.heap.size w1 W
  | v :: _, W => Below w1.heap.size w1 W ∧ ∃ A, v = .slice A ln ln ∧ NmsAt W A L
theorem ISm.low {w1 : World} {L : List Nm} {ln : Nat} {vs : List Value} {W : World} (h : ISm w1 L ln vs W) : Below w1.heap.size w1 W := by
  rcases vs with _ | ⟨v, vs⟩
  · exact h
  · exact h.1
theorem ISm.grow {w1 : World} {L : List Nm} {ln : Nat} {vs : List Value} {W W' : World} (h : ISm w1 L ln vs W) (hb : Below W.heap.size W W') : ISm w1 L ln vs W' := by
  rcases vs with _ | ⟨v, vs⟩
  · exact Below.trans h (hb.mono (Below.size h))
  · obtain ⟨h1, A, h2, h3⟩ := h
    exact ⟨h1.trans (hb.mono h1.size), A, h2, h3.below hb⟩
set_option maxRecDepth 100000 in
set_option maxHeartbeats 4000000 in
theorem same_any (w : World) (K A B : Nat → Prop) (p r : Nat) (S : Fs) (N : Nat) (h : Two K A B p r w S S) (hI : Inv N 16777216 S) (hD : Dv S) (hN : N ≤ 1000000) :
    Calls Try.prog 31 #[ptrV p, ptrV r] w fun e w' => e = .returned (.bool true) ∧ Below w.heap.size w w' := by
  have H := Lib.hid h
  have HL1 := Lib.hid (fun W (hb : Below w.heap.size w W) => (h.below hb).list hI hN ⟨#[]⟩)
  have HL2 := Lib.hid (h.rlist hI hN ⟨#[]⟩ (by decide))
  have HU1 := Lib.hid (fun W (hb : Below w.heap.size w W) => (h.below hb).used hI hN)
  have HU2 := Lib.hid (fun W (hb : Below w.heap.size w W) => (h.below hb).rused hI hN)
  have HDD := Lib.hid (fun W (hb : Below w.heap.size w W) => (h.below hb).dead)
  have HRD := Lib.hid (fun W (hb : Below w.heap.size w W) => (h.below hb).rdead)
  have HRE := Lib.hid (fun W (n : Nm) (hn : n.length ≤ 200) (hb : Below w.heap.size w W) => (h.below hb).read hI (bkN n) (by rw [bkN_size]; omega))
  have HRF := Lib.hid (fun W (n : Nm) (hn : n.length ≤ 200) (hb : Below w.heap.size w W) => (h.below hb).rread hI hN (bkN n) (by rw [bkN_size]; omega))
  have HSH := Lib.hid (listF_short hI hD [])
  have HLL : Hid ((listF S []).length ≤ 1000000) := Lib.hid (Nat.le_trans (listF_len hI []) hN)
  unfold ListPost at HL1
  unfold RListPost at HL2
  unfold ReadPost at HRE
  unfold RReadPost at HRF
  change Hid (∀ W, Below w.heap.size w W → Calls _ _ _ _ fun e W' => Below _ _ W' ∧ ∃ A, e = .returned (.slice A (listF S []).length (listF S []).length) ∧ OwnS W' _ _ 1 (.slice A (listF S []).length (listF S []).length) (listF S []).length (nmVs (listF S []))) at HL1
  change Hid (Calls _ _ _ _ fun e W' => Below _ _ W' ∧ ∃ A c, e = .returned (.slice A (listF S []).length c) ∧ OwnS W' _ _ 1 (.slice A (listF S []).length c) (listF S []).length (nmVs (listF S []))) at HL2
  generalize listF S [] = L at *
  generalize (usedF S : Int) = us at *
  generalize hde : S.dead = de at *
  clear h hI hD hN hde
  obtain ⟨ln, hln⟩ : ∃ ln, L.length = ln := ⟨_, rfl⟩
  have HLN := Lib.hid hln
  rw [hln] at HL1 HL2 HLL
  clear hln
  unfold ptrV at *
  go_enter Try.func31, Try.ntmps31
  go_upto_region 2 with (go_at_call 30; refine HL2.out.mono ?_; rintro e w1 ⟨hb1, Al, cl, rfl, ho1⟩)
  have HB1 := Lib.hid hb1
  have HO1 := Lib.hid ho1
  clear hb1 ho1 HL2
  refine wp_region_ph (by kernel_rfl) [1, 3] [.span 0 0, .phase 0, .span 0 1, .phase 1, .span 2 2, .span 2 2, .span 2 2, .span 2 2, .span 2 2, .span 2 2, .span 2 2, .span 2 2, .span 2 2, .span 2 2, .span 2 2, .span 2 2, .span 2 2, .span 2 2, .span 2 2, .span 2 2, .span 2 2] [fun z9 => z9 = .pointer (some ⟨p, 0, none⟩), fun _ => True, fun z9 => z9 = .slice Al ln cl, fun z9 => z9 = .bool true, fun z9 => z9 = .bool false, fun z9 => z9 = .bool false, fun z9 => z9 = .pointer (some ⟨p, 0, none⟩), fun z9 => z9 = .int .i64 us, fun z9 => z9 = .pointer (some ⟨r, 0, none⟩), fun z9 => z9 = .int .i64 us, fun z9 => z9 = .bool false, fun z9 => z9 = .bool false, fun z9 => z9 = .bool false, fun z9 => z9 = .pointer (some ⟨p, 0, none⟩), fun z9 => z9 = .bool de, fun z9 => z9 = .pointer (some ⟨r, 0, none⟩), fun z9 => z9 = .pointer (some ⟨r, 0, none⟩), fun z9 => z9 = .pointer (some ⟨r, 6, none⟩), fun z9 => z9 = .bool de, fun z9 => z9 = .bool false, fun z9 => z9 = .bool false] (ISm w1 L ln) (by kernel_rfl) (by kernel_rfl) (by kernel_rfl) (by kernel_rfl) (by kernel_rfl) (by kernel_rfl) rfl rfl ((show Below w1.heap.size w1 w1.drew from (Below.refl _ _).drew)) ?steps ?done
  case steps =>
    refine ⟨?_, ?_, ?_, ?_, ?_, ?_, ?_, ?_, ?_, ?_, ?_, ?_, ?_, ?_, ?_, ?_, ?_, ?_, ?_, ?_, ?_, trivial⟩
    · intro us au w2 k0 hlo hhi ha hd hst hI
      obtain rfl : k0 = 0 := by omega
      have q0 := slot_far (t := 0) (v := .pointer (some ⟨p, 0, none⟩)) ha (by kernel_rfl) (by kernel_rfl)
      have p0 := slot_norm q0
      clear ha hd hst
      exact StepI.pure (v := .pointer (some ⟨p, 0, none⟩)) rfl rfl (by go_simp) ⟨rfl, hI⟩
    · intro us au w2 ha hd hst hI
      have e0 := hd 0 _ (by kernel_rfl) rfl
      have q13 := slot_at (t := 13) 0 ha (by kernel_rfl) (by kernel_rfl) (by kernel_rfl) e0
      have p13 := slot_norm q13
      clear ha hd hst
      refine StepI.call (f := 13) (args := #[.pointer (some ⟨p, 0, none⟩), .string ⟨#[]⟩]) rfl rfl (by go_simp) ?_
      refine (HL1.out w2 (HB1.out.trans (ISm.low (vs := []) hI |>.mono HB1.out.size))).mono ?_
      rintro e w5 ⟨hb5, A5, rfl, ho5⟩
      exact ⟨_, rfl, trivial, Below.trans (ISm.low (vs := []) hI) (hb5.mono (ISm.low (vs := []) hI).size), A5, rfl, ho5.nmsAt⟩
    · intro us au w2 k2 hlo hhi ha hd hst hI
      have q5 := slot_far (t := 5) (v := .slice Al ln cl) ha (by kernel_rfl) (by kernel_rfl)
      have p5 := slot_norm q5
      clear ha hd hst
      exact StepI.pure (v := .slice Al ln cl) rfl rfl (by go_simp) ⟨rfl, hI⟩
    · intro us au w2 ha hd hst hI
      obtain ⟨_⟩ := hd 1 _ (by kernel_rfl) rfl
      have e2 := hd 2 _ (by kernel_rfl) rfl
      have q14 := slot_at (t := 14) 1 ha (by kernel_rfl) (by kernel_rfl) (by kernel_rfl) (Eq.refl (us 1))
      have p14 := slot_norm q14
      have q15 := slot_at (t := 15) 2 ha (by kernel_rfl) (by kernel_rfl) (by kernel_rfl) e2
      have p15 := slot_norm q15
      clear ha hd hst
      obtain ⟨hlo, A5, hv5, hn5⟩ := hI
      rw [hv5] at p14
      refine StepI.call (f := 26) (args := #[.slice A5 ln ln, .slice Al ln cl]) rfl rfl (by go_simp) ?_
      refine (texts_any A5 Al ln ln cl L w2 hn5 (HO1.out.nmsAt.below hlo) HLN.out (by have := HLL.out; omega)).mono ?_
      rintro e w5 ⟨rfl, hb⟩
      exact ⟨_, rfl, rfl, hlo.trans (hb.mono hlo.size), A5, hv5, hn5.below hb⟩
    · intro us au w2 k4 hlo hhi ha hd hst hI
      obtain rfl : k4 = 2 := by omega
      have e3 := hd 3 _ (by kernel_rfl) rfl
      have q16 := slot_at (t := 16) 3 ha (by kernel_rfl) (by kernel_rfl) (by kernel_rfl) e3
      have p16 := slot_norm q16
      clear ha hd hst
      exact StepI.pure (v := .bool false) rfl rfl (by go_simp) ⟨rfl, hI⟩
    · intro us au w2 k5 hlo hhi ha hd hst hI
      obtain rfl : k5 = 2 := by omega
      have e4 := hd 4 _ (by kernel_rfl) rfl
      have q17 := slot_at (t := 17) 4 ha (by kernel_rfl) (by kernel_rfl) (by kernel_rfl) e4
      have p17 := slot_norm q17
      clear ha hd hst
      exact StepI.pure (v := .bool false) rfl rfl (by go_simp) ⟨rfl, hI⟩
    · intro us au w2 k6 hlo hhi ha hd hst hI
      obtain rfl : k6 = 2 := by omega
      have e5 := hd 5 _ (by kernel_rfl) rfl
      have q0 := slot_far (t := 0) (v := .pointer (some ⟨p, 0, none⟩)) ha (by kernel_rfl) (by kernel_rfl)
      have p0 := slot_norm q0
      have hg := slot_at (t := 18) 5 ha (by kernel_rfl) (by kernel_rfl) (by kernel_rfl) e5
      clear ha hd hst
      exact StepI.pure (v := .pointer (some ⟨p, 0, none⟩)) rfl (wanted_at rfl rfl hg) (by go_simp) ⟨rfl, hI⟩
    · intro us au w2 k7 hlo hhi ha hd hst hI
      obtain rfl : k7 = 2 := by omega
      have e6 := hd 6 _ (by kernel_rfl) rfl
      have e5 := hd 5 _ (by kernel_rfl) rfl
      have q19 := slot_at (t := 19) 6 ha (by kernel_rfl) (by kernel_rfl) (by kernel_rfl) e6
      have p19 := slot_norm q19
      have hg := slot_at (t := 18) 5 ha (by kernel_rfl) (by kernel_rfl) (by kernel_rfl) e5
      clear ha hd hst
      refine StepI.call (f := 16) (args := #[.pointer (some ⟨p, 0, none⟩)]) rfl (wanted_at rfl rfl hg) (by go_simp) ?_
      refine (HU1.out w2 (HB1.out.trans (hI.low.mono HB1.out.size))).mono ?_
      rintro e w5 ⟨rfl, hb⟩
      exact ⟨_, rfl, rfl, hI.grow hb⟩
    · intro us au w2 k8 hlo hhi ha hd hst hI
      obtain rfl : k8 = 2 := by omega
      have e5 := hd 5 _ (by kernel_rfl) rfl
      have q1 := slot_far (t := 1) (v := .pointer (some ⟨r, 0, none⟩)) ha (by kernel_rfl) (by kernel_rfl)
      have p1 := slot_norm q1
      have hg := slot_at (t := 18) 5 ha (by kernel_rfl) (by kernel_rfl) (by kernel_rfl) e5
      clear ha hd hst
      exact StepI.pure (v := .pointer (some ⟨r, 0, none⟩)) rfl (wanted_at rfl rfl hg) (by go_simp) ⟨rfl, hI⟩
    · intro us au w2 k9 hlo hhi ha hd hst hI
      obtain rfl : k9 = 2 := by omega
      have e8 := hd 8 _ (by kernel_rfl) rfl
      have e5 := hd 5 _ (by kernel_rfl) rfl
      have q21 := slot_at (t := 21) 8 ha (by kernel_rfl) (by kernel_rfl) (by kernel_rfl) e8
      have p21 := slot_norm q21
      have hg := slot_at (t := 18) 5 ha (by kernel_rfl) (by kernel_rfl) (by kernel_rfl) e5
      clear ha hd hst
      refine StepI.call (f := 51) (args := #[.pointer (some ⟨r, 0, none⟩)]) rfl (wanted_at rfl rfl hg) (by go_simp) ?_
      refine (HU2.out w2 (HB1.out.trans (hI.low.mono HB1.out.size))).mono ?_
      rintro e w5 ⟨rfl, hb⟩
      exact ⟨_, rfl, rfl, hI.grow hb⟩
    · intro us au w2 k10 hlo hhi ha hd hst hI
      obtain rfl : k10 = 2 := by omega
      have e7 := hd 7 _ (by kernel_rfl) rfl
      have e9 := hd 9 _ (by kernel_rfl) rfl
      have e5 := hd 5 _ (by kernel_rfl) rfl
      have q20 := slot_at (t := 20) 7 ha (by kernel_rfl) (by kernel_rfl) (by kernel_rfl) e7
      have p20 := slot_norm q20
      have q22 := slot_at (t := 22) 9 ha (by kernel_rfl) (by kernel_rfl) (by kernel_rfl) e9
      have p22 := slot_norm q22
      have hg := slot_at (t := 18) 5 ha (by kernel_rfl) (by kernel_rfl) (by kernel_rfl) e5
      clear ha hd hst
      exact StepI.pure (v := .bool false) rfl (wanted_at rfl rfl hg) (by go_simp) ⟨rfl, hI⟩
    · intro us au w2 k11 hlo hhi ha hd hst hI
      obtain rfl : k11 = 2 := by omega
      have e5 := hd 5 _ (by kernel_rfl) rfl
      have e10 := hd 10 _ (by kernel_rfl) rfl
      have q18 := slot_at (t := 18) 5 ha (by kernel_rfl) (by kernel_rfl) (by kernel_rfl) e5
      have p18 := slot_norm q18
      have q23 := slot_at (t := 23) 10 ha (by kernel_rfl) (by kernel_rfl) (by kernel_rfl) e10
      have p23 := slot_norm q23
      clear ha hd hst
      exact StepI.pure (v := .bool false) rfl rfl (by go_simp) ⟨rfl, hI⟩
    · intro us au w2 k12 hlo hhi ha hd hst hI
      obtain rfl : k12 = 2 := by omega
      have e11 := hd 11 _ (by kernel_rfl) rfl
      have q24 := slot_at (t := 24) 11 ha (by kernel_rfl) (by kernel_rfl) (by kernel_rfl) e11
      have p24 := slot_norm q24
      clear ha hd hst
      exact StepI.pure (v := .bool false) rfl rfl (by go_simp) ⟨rfl, hI⟩
    · intro us au w2 k13 hlo hhi ha hd hst hI
      obtain rfl : k13 = 2 := by omega
      have e12 := hd 12 _ (by kernel_rfl) rfl
      have q0 := slot_far (t := 0) (v := .pointer (some ⟨p, 0, none⟩)) ha (by kernel_rfl) (by kernel_rfl)
      have p0 := slot_norm q0
      have hg := slot_at (t := 25) 12 ha (by kernel_rfl) (by kernel_rfl) (by kernel_rfl) e12
      clear ha hd hst
      exact StepI.pure (v := .pointer (some ⟨p, 0, none⟩)) rfl (wanted_at rfl rfl hg) (by go_simp) ⟨rfl, hI⟩
    · intro us au w2 k14 hlo hhi ha hd hst hI
      obtain rfl : k14 = 2 := by omega
      have e13 := hd 13 _ (by kernel_rfl) rfl
      have e12 := hd 12 _ (by kernel_rfl) rfl
      have q26 := slot_at (t := 26) 13 ha (by kernel_rfl) (by kernel_rfl) (by kernel_rfl) e13
      have p26 := slot_norm q26
      have hg := slot_at (t := 25) 12 ha (by kernel_rfl) (by kernel_rfl) (by kernel_rfl) e12
      clear ha hd hst
      refine StepI.call (f := 23) (args := #[.pointer (some ⟨p, 0, none⟩)]) rfl (wanted_at rfl rfl hg) (by go_simp) ?_
      refine (HDD.out w2 (HB1.out.trans (hI.low.mono HB1.out.size))).mono ?_
      rintro e w5 ⟨rfl, rfl⟩
      exact ⟨_, rfl, rfl, hI⟩
    · intro us au w2 k15 hlo hhi ha hd hst hI
      obtain rfl : k15 = 2 := by omega
      have e12 := hd 12 _ (by kernel_rfl) rfl
      have q1 := slot_far (t := 1) (v := .pointer (some ⟨r, 0, none⟩)) ha (by kernel_rfl) (by kernel_rfl)
      have p1 := slot_norm q1
      have hg := slot_at (t := 25) 12 ha (by kernel_rfl) (by kernel_rfl) (by kernel_rfl) e12
      clear ha hd hst
      exact StepI.pure (v := .pointer (some ⟨r, 0, none⟩)) rfl (wanted_at rfl rfl hg) (by go_simp) ⟨rfl, hI⟩
    · intro us au w2 k16 hlo hhi ha hd hst hI
      obtain rfl : k16 = 2 := by omega
      have e15 := hd 15 _ (by kernel_rfl) rfl
      have e12 := hd 12 _ (by kernel_rfl) rfl
      have q28 := slot_at (t := 28) 15 ha (by kernel_rfl) (by kernel_rfl) (by kernel_rfl) e15
      have p28 := slot_norm q28
      have hg := slot_at (t := 25) 12 ha (by kernel_rfl) (by kernel_rfl) (by kernel_rfl) e12
      clear ha hd hst
      exact StepI.pure (v := .pointer (some ⟨r, 0, none⟩)) rfl (wanted_at rfl rfl hg) (by go_simp) ⟨rfl, hI⟩
    · intro us au w2 k17 hlo hhi ha hd hst hI
      obtain rfl : k17 = 2 := by omega
      have e16 := hd 16 _ (by kernel_rfl) rfl
      have e12 := hd 12 _ (by kernel_rfl) rfl
      have q29 := slot_at (t := 29) 16 ha (by kernel_rfl) (by kernel_rfl) (by kernel_rfl) e16
      have p29 := slot_norm q29
      have hg := slot_at (t := 25) 12 ha (by kernel_rfl) (by kernel_rfl) (by kernel_rfl) e12
      clear ha hd hst
      exact StepI.pure (v := .pointer (some ⟨r, 6, none⟩)) rfl (wanted_at rfl rfl hg) (by go_simp) ⟨rfl, hI⟩
    · intro us au w2 k18 hlo hhi ha hd hst hI
      obtain rfl : k18 = 2 := by omega
      have e17 := hd 17 _ (by kernel_rfl) rfl
      have e12 := hd 12 _ (by kernel_rfl) rfl
      have q30 := slot_at (t := 30) 17 ha (by kernel_rfl) (by kernel_rfl) (by kernel_rfl) e17
      have p30 := slot_norm q30
      have hg := slot_at (t := 25) 12 ha (by kernel_rfl) (by kernel_rfl) (by kernel_rfl) e12
      clear ha hd hst
      have kk := HRD.out w2 (HB1.out.trans (hI.low.mono HB1.out.size))
      exact StepI.pure (v := .bool de) rfl (wanted_at rfl rfl hg) (by go_simp) ⟨rfl, hI⟩
    · intro us au w2 k19 hlo hhi ha hd hst hI
      obtain rfl : k19 = 2 := by omega
      have e14 := hd 14 _ (by kernel_rfl) rfl
      have e18 := hd 18 _ (by kernel_rfl) rfl
      have e12 := hd 12 _ (by kernel_rfl) rfl
      have q27 := slot_at (t := 27) 14 ha (by kernel_rfl) (by kernel_rfl) (by kernel_rfl) e14
      have p27 := slot_norm q27
      have q31 := slot_at (t := 31) 18 ha (by kernel_rfl) (by kernel_rfl) (by kernel_rfl) e18
      have p31 := slot_norm q31
      have hg := slot_at (t := 25) 12 ha (by kernel_rfl) (by kernel_rfl) (by kernel_rfl) e12
      clear ha hd hst
      exact StepI.pure (v := .bool false) rfl (wanted_at rfl rfl hg) (by go_simp) ⟨rfl, hI⟩
    · intro us au w2 k20 hlo hhi ha hd hst hI
      obtain rfl : k20 = 2 := by omega
      have e12 := hd 12 _ (by kernel_rfl) rfl
      have e19 := hd 19 _ (by kernel_rfl) rfl
      have q25 := slot_at (t := 25) 12 ha (by kernel_rfl) (by kernel_rfl) (by kernel_rfl) e12
      have p25 := slot_norm q25
      have q32 := slot_at (t := 32) 19 ha (by kernel_rfl) (by kernel_rfl) (by kernel_rfl) e19
      have p32 := slot_norm q32
      clear ha hd hst
      exact StepI.pure (v := .bool false) rfl rfl (by go_simp) ⟨rfl, hI⟩
  case done =>
    intro us w2 hI hd
    have hIB : Below w1.heap.size w1 w2 := ISm.low hI
    have eL := hd 20 _ (by decide) rfl
    clear hd hI
    have HBI := Lib.hid hIB
    clear hIB
    simp only [putAll]
    go_simp
    go_wp2
    go_loopw [6] (fun v6 wz => ∃ i : Nat, v6 = .int .i64 (i : Int) ∧ i ≤ ln ∧ Below w1.heap.size w1 wz) (fun v6 _ => ln - (intOf v6).toNat)
    case atStart => exact ⟨0, rfl, Nat.zero_le _, HBI.out⟩
    case round =>
      obtain ⟨i, rfl, hi, hb⟩ := hrel
      have hls := HLL.out
      have HB := Lib.hid hb
      by_cases hlt : i < ln
      · obtain ⟨n, hn⟩ : ∃ n, L[i]? = some n := ⟨_, List.getElem?_eq_getElem (by rw [HLN.out]; exact hlt)⟩
        obtain ⟨b, o, rfl, hbl, hcell⟩ := HO1.out.nmsAt (by rw [HLN.out]; omega)
        have hc := (hb.cell (p := ⟨b, o + i, none⟩) hbl).trans (hcell i n hn)
        have HC := Lib.hid (fun W (hx : Below w1.heap.size w1 W) => (hx.cell (p := ⟨b, o + i, none⟩) hbl).trans (hcell i n hn))
        have hn2 := HSH.out n (List.mem_of_getElem? hn)
        have HBW : Hid (Below w.heap.size w wr) := Lib.hid (HB1.out.trans (hb.mono HB1.out.size))
        have HR1 := Lib.hid (HRE.out wr n hn2 HBW.out)
        have HR2 := Lib.hid (fun W hb => HRF.out W n hn2 hb)
        rw [bkN_list] at HR1 HR2
        generalize hrl : readL S n = rl at *
        have HRL := Lib.hid hrl
        generalize ofF S n = cd at *
        generalize bkN n = nb at *
        have d0 : decide ((i : Int) < (ln : Int)) = true := decide_eq_true (by omega)
        have d0' : decide (i < ln) = true := decide_eq_true hlt
        clear hb hcell hbl hn hn2 hrl
        go_upto_region 8 with (go_at_call 14; refine HR1.out.mono ?_; rintro e w7 ⟨hb7, A9, rfl, ho7⟩)
        have hw7 : Below w1.heap.size w1 w7 := HB.out.trans (hb7.mono HB.out.size)
        have hc7 := HC.out w7 hw7
        have HB7 := Lib.hid hw7
        have HW7 : Hid (Below w.heap.size w w7) := Lib.hid (HB1.out.trans (hw7.mono HB1.out.size))
        have HO7 := Lib.hid ho7
        clear hb7 ho7 hw7
        go_upto_region 9 with (go_at_call 45; refine (HR2.out w7 HW7.out).mono ?_; rintro e w8 ⟨rfl, hb8⟩)
        have hcv := run_bstr w8 A9 rl.length rl.length rl (HO7.out.keptB hb8).ints rfl
        have HB8 := Lib.hid (HB7.out.trans (hb8.mono HB7.out.size))
        generalize strOfNums rl = st at *
        generalize rl.length = rn at *
        clear hb8
        go_wp2
        go_roundw
        case rel => exact ⟨i + 1, rfl, hlt, HB8.out⟩
        case measure => simp [intOf]; omega
      · have d0 : decide ((i : Int) < (ln : Int)) = false := decide_eq_false (by omega)
        have d0' : decide (i < ln) = false := decide_eq_false hlt
        clear hb
        go_wp2
        go_ret
        exact ⟨rfl, HB1.out.trans (HB.out.mono HB1.out.size)⟩
end Go.Proofs.Ytmoaabjiokjjlaa
namespace Go.Proofs.Ytmoaabjiokjjlaa
open Go.RowKit Go.Maps
set_option linter.unusedVariables false
set_option linter.unusedSimpArgs false

/-- A script whose bytes may be. -/
def OpsB (W : World) (As : Option Addr) (n : Nat) : Prop := 0 < n → ∃ b o, As = some ⟨b, o, none⟩ ∧ b < W.heap.size ∧ ∀ i, i < n → ∃ x : OpV, OpAt W b (o + i * 6) x ∧ x.xs.length ≤ 140737488351232
theorem wf_le {x : Int} (h : (Lit.int .i64 x).wf = true) : x ≤ 9223372036854775807 := by
  simp [Lit.wf, IntKind.min, IntKind.max, IntKind.bits, IntKind.signed] at h
  omega
theorem fsNew_no (w : World) (k : Int) (hk : ¬ (0 ≤ k ∧ k ≤ 16777216)) : Calls Try.prog 9 #[.int .i64 k] w fun e w' => e = .returned (.tuple #[.pointer none, .int .i64 1]) ∧ Below w.heap.size w w' :=
  (fsNew_any w k).mono fun e w' ⟨hb, h⟩ => by
    rcases h with ⟨_, he⟩ | ⟨h, _⟩
    · exact ⟨he, hb⟩
    · exact absurd (by omega) hk
/-- While the lists are held against one another. -/
def I14 (w1 : World) (L : List Nm) (ln : Nat) : List Value → World → Prop
  | [], W => Below w1.heap.size w1 W
  | [v], W => Below w1.heap.size w1 W ∧ ∃ A, v = .slice A ln ln ∧ NmsAt W A L
  | v :: u :: _, W => Below w1.heap.size w1 W ∧ (∃ A, v = .slice A ln ln ∧ NmsAt W A L) ∧ ∃ A c, u = .slice A ln c ∧ NmsAt W A L
theorem I14.low {w1 : World} {L : List Nm} {ln : Nat} {vs : List Value} {W : World} (h : I14 w1 L ln vs W) : Below w1.heap.size w1 W := by
  rcases vs with _ | ⟨v, _ | ⟨u, vs⟩⟩
  · exact h
  · exact h.1
  · exact h.1
theorem I14.grow {w1 : World} {L : List Nm} {ln : Nat} {vs : List Value} {W W' : World} (h : I14 w1 L ln vs W) (hb : Below W.heap.size W W') : I14 w1 L ln vs W' := by
  rcases vs with _ | ⟨v, _ | ⟨u, vs⟩⟩
  · exact Below.trans h (hb.mono (Below.size h))
  · obtain ⟨h1, A, h2, h3⟩ := h
    exact ⟨h1.trans (hb.mono h1.size), A, h2, h3.below hb⟩
  · obtain ⟨h1, ⟨A, h2, h3⟩, B, c, h4, h5⟩ := h
    exact ⟨h1.trans (hb.mono h1.size), ⟨A, h2, h3.below hb⟩, B, c, h4, h5.below hb⟩
set_option maxRecDepth 100000 in
set_option maxHeartbeats 8000000 in
theorem fsPlays_walk (k : Int) (As : Option Addr) (n cs : Nat) (w : World) (hO : OpsB w As n) (hn : n ≤ 9223372036854775807) :
    Calls Try.prog 8 #[.int .i64 k, .slice As n cs] w fun e w' => e = .returned (.bool true) ∧ Below w.heap.size w w' := by
  have HOP := Lib.hid hO
  have HN := Lib.hid hn
  clear hO hn
  by_cases hk : 0 ≤ k ∧ k ≤ 16777216
  · have HNW := Lib.hid (new_in w k hk)
    have HRW := Lib.hid (fun W => rnew_any W k hk)
    have HI0 : Hid (Inv 0 16777216 (newF k)) := Lib.hid (Inv.new hk)
    have HD0 := Lib.hid (Dv.new k)
    unfold ptrV at HNW HRW
    clear hk
    generalize newF k = S0 at *
    go_enter Try.func8, Try.ntmps8
    go_upto_region 2 with (go_at_call 9; refine HNW.out.mono ?_; rintro e w1 ⟨p0, rfl, h1, hb1⟩)
    go_upto_region 3 with (go_at_call 27; refine (HRW.out w1).mono ?_; rintro e w2 ⟨q0, rfl, h2, hb2⟩)
    obtain ⟨r0, hr0⟩ : ∃ r0, r0 = q0.p := ⟨_, rfl⟩
    have HT2 : Hid (Two (fun k => k < w.heap.size) (fun k => w.heap.size ≤ k ∧ k < w1.heap.size) (fun k => w1.heap.size ≤ k ∧ k < w2.heap.size) p0 r0 w2 S0 S0) := Lib.hid ⟨h1.bound.below hb2, ⟨q0, hr0.symm, h2.bound⟩, fun k hk => ⟨by omega, by have := hb2.size; omega⟩, fun k hk => ⟨by have := hb1.size; omega, by omega⟩, fun k hk => by have := hb1.size; have := hb2.size; omega, fun k hk hx => by omega⟩
    have HB2 : Hid (Below w.heap.size w w2) := Lib.hid (hb1.trans (hb2.mono hb1.size))
    rw [← hr0]
    clear h1 hb1 h2 hb2 hr0 HNW HRW
    go_wp2_with (go_at_call 15; refine (awake1_any w2).mono ?_; rintro e w3 ⟨rfl, hb3⟩; have HT3 := Lib.hid (HT2.out.below hb3); have HB3 := Lib.hid (HB2.out.trans (hb3.mono HB2.out.size)); clear hb3)
    go_loopw [9, 5, 7] (fun v9 v5 v7 wz => ∃ (i p r : Nat) (A B : Nat → Prop) (S : Fs), v9 = .int .i64 (i : Int) ∧ v5 = .pointer (some ⟨p, 0, none⟩) ∧ v7 = .pointer (some ⟨r, 0, none⟩) ∧ i ≤ 60 ∧ i ≤ n ∧ Two (fun k => k < w.heap.size) A B p r wz S S ∧ Inv i 16777216 S ∧ Dv S ∧ Below w.heap.size w wz) (fun v9 _ _ _ => 60 - (intOf v9).toNat)
    case atStart => exact ⟨0, p0, r0, _, _, S0, rfl, rfl, rfl, by omega, by omega, HT3.out, HI0.out, HD0.out, HB3.out⟩
    case round =>
      clear HT2 HB2 HT3 HB3 HI0 HD0
      obtain ⟨i, p, r, A, B, S, rfl, rfl, rfl, hi60, hin, hT, hI, hD, hB⟩ := hrel
      have HB := Lib.hid hB
      by_cases hend : i < n ∧ i < 60
      · obtain ⟨hlt, hlt60⟩ := hend
        have d2 : decide ((i : Int) < (n : Int)) = true := decide_eq_true (by omega)
        have d2' : decide (i < n) = true := decide_eq_true hlt
        have d3 : decide ((i : Int) < 60) = true := decide_eq_true (by omega)
        have d3' : decide (i < 60) = true := decide_eq_true hlt60
        obtain ⟨eb, eo, rfl, heb0, hops⟩ := HOP.out (by omega)
        obtain ⟨x, hx0, hxb⟩ := hops i hlt
        have hx := hx0.below hB heb0
        have r0 := hx.c0
        have r1 := hx.c1
        have r2 := hx.c2
        have r3 := hx.c3
        have r4 := hx.c4
        have r5 := hx.c5
        have hb6 : Below wr.heap.size wr (wr.alloc (.cells (opCells x) 39)) := (Below.refl _ wr).alloc (Nat.le_refl _) _
        have hx6 := hx.below hb6 (Nat.lt_of_lt_of_le heb0 hB.size)
        have hof := opF_new wr x
        have hT6 : Two (fun k => k < w.heap.size ∨ k = wr.heap.size) A B p r (wr.alloc (.cells (opCells x) 39)) S S := hT.more hb6 (fun k hk => by
          have hs := hB.size
          have hs6 := hof.blk
          rcases hk with hk | hk
          · exact ⟨by omega, .inl hk⟩
          · exact ⟨by omega, .inr (by omega)⟩)
        have HDO := Lib.hid (do_any _ _ A B p r S i x hT6 hI hD (by omega) hx6.sa hx6.sb hx6.xI hx6.xw hx6.xl hx6.yI hx6.yl (wf_le hx6.wn) hxb (fun hl b o e => .inl (hx0.xI.lt0 hl b o e)) (fun hl b o e => .inl (hx0.yI.lt0 hl b o e)))
        have HB6 : Hid (Below w.heap.size w (wr.alloc (.cells (opCells x) 39))) := Lib.hid (hB.trans (hb6.mono hB.size))
        have HSA := Lib.hid hx6.sa
        clear hx hx0 hx6 hops heb0 hT hI hD hB hb6 hT6 hxb
        unfold opCells at *
        unfold ptrV DoPost at HDO
        go_upto_region 9 with (fail)
        generalize wr.alloc (.cells #[.int .i64 x.kd, .int .i64 x.nn, .string x.a, .string x.b, .slice x.A x.xs.length x.cA, .slice x.B x.ys.length x.cB] 39) = w6 at *
        generalize wr.heap.size = og at *
        have q0 : w6.cell? ⟨og, 0, none⟩ = some (.int .i64 x.kd) := hof.cell 0 (by decide)
        have q1 : w6.cell? ⟨og, 1, none⟩ = some (.int .i64 x.nn) := hof.cell 1 (by decide)
        have q2 : w6.cell? ⟨og, 2, none⟩ = some (.string x.a) := hof.cell 2 (by decide)
        have q3 : w6.cell? ⟨og, 3, none⟩ = some (.string x.b) := hof.cell 3 (by decide)
        have q4 : w6.cell? ⟨og, 4, none⟩ = some (.slice x.A x.xs.length x.cA) := hof.cell 4 (by decide)
        have q5 : w6.cell? ⟨og, 5, none⟩ = some (.slice x.B x.ys.length x.cB) := hof.cell 5 (by decide)
        go_upto_region 11 with (go_at_call 28; refine HDO.out.mono ?_; rintro e w7 ⟨rfl, S2, A2, B2, ht7, hi7, hd7, hk7⟩)
        have HKD : Hid (∀ (o : Nat) (v : Value), w6.cell? ⟨og, o, none⟩ = some v → w7.cell? ⟨og, o, none⟩ = some v) := Lib.hid (fun o v hc => hk7.cell hc (.inr rfl))
        have y0 := HKD.out 0 _ q0
        have y2 := HKD.out 2 _ q2
        have HI7 := Lib.hid hi7
        have HD7 := Lib.hid hd7
        have HT7 := Lib.hid ht7
        have HB7 : Hid (Below w.heap.size w w7) := Lib.hid (HB6.out.trans (hk7.below HB6.out.size (fun k hk hn => hn (.inl hk))))
        have HY0 := Lib.hid y0
        have HY2 := Lib.hid y2
        clear ht7 hi7 hd7 hk7 HDO q0 q1 q2 q3 q4 q5 hof r0 r1 r2 r3 r4 r5 d2 d2' d3 d3' HB6
        go_upto_if 60 with (fail)
        go_cut [5, 7] (fun v5 v7 wz => ∃ (p' r' : Nat) (A' B' : Nat → Prop), v5 = .pointer (some ⟨p', 0, none⟩) ∧ v7 = .pointer (some ⟨r', 0, none⟩) ∧ Two (fun k => k < w.heap.size) A' B' p' r' wz S2 S2 ∧ Below w7.heap.size w7 wz)
        case first => as_aux_lemma =>
          by_cases hk9 : x.kd = 9
          · have e9 : (x.kd == 9) = true := by rw [hk9]; rfl
            clear hk9
            have HC1 := Lib.hid (copy_in HT7.out.fs HI7.out (by omega))
            have HC2 := Lib.hid (fun W (hb : Below w7.heap.size w7 W) => (HT7.out.below hb).rcopy HI7.out (by omega))
            unfold CopyPost at HC1
            go_wp2_with (first
              | (have hx := hb8; go_at_call 29; refine (HC2.out w8 hb8).mono ?_; rintro e w9 ⟨r9, rfl, h9, hb9⟩)
              | (go_at_call 25; refine HC1.out.mono ?_; rintro e w8 ⟨p8, rfl, h8, hb8⟩))
            go_meet
            have hs := HB7.out.size
            have hs8 := hb8.size
            have hs9 := hb9.size
            refine ⟨p8, r9, fun k => w7.heap.size ≤ k ∧ k < w8.heap.size, fun k => w8.heap.size ≤ k ∧ k < w9.heap.size, rfl, rfl, ⟨h8.bound.below hb9, h9.bound, fun k hk => ⟨by omega, by omega⟩, fun k hk => ⟨by omega, by omega⟩, fun k hk => by omega, fun k hk hx => by omega⟩, hb8.trans (hb9.mono hs8)⟩
          · have e9 : (x.kd == 9) = false := by rw [beq_eq_false_iff_ne]; exact hk9
            clear hk9
            go_wp2
            go_meet
            exact ⟨p, r, A2, B2, rfl, rfl, HT7.out.less (fun k hk => .inl hk), Below.refl _ _⟩
        case rest =>
          obtain ⟨p, r, A, B, rfl, rfl, ht8, hb8⟩ := hcut
          have HT8 := Lib.hid ht8
          have HB8 : Hid (Below w.heap.size w wc) := Lib.hid (HB7.out.trans (hb8.mono HB7.out.size))
          have HY8 : Hid (wc.cell? ⟨og, 2, none⟩ = some (.string x.a)) := Lib.hid ((hb8.cell (p := ⟨og, 2, none⟩) (World.block_lt_of_cell? w7 _ HY2.out)).trans HY2.out)
          have HL1 := Lib.hid (fun W (hb : Below wc.heap.size wc W) => (ht8.below hb).list HI7.out (by omega) x.a)
          have HL2 := Lib.hid (fun W (hb : Below wc.heap.size wc W) => (ht8.below hb).rlist HI7.out (by omega) x.a HSA.out)
          have HSM := Lib.hid (fun W (hb : Below wc.heap.size wc W) => same_any W _ A B p r S2 (i + 1) (ht8.below hb) HI7.out HD7.out (by omega))
          have HLL : Hid ((listF S2 x.a.data.toList).length ≤ 1000000) := Lib.hid (Nat.le_trans (listF_len HI7.out _) (by omega))
          unfold ListPost ptrV at HL1
          unfold RListPost ptrV at HL2
          unfold ptrV at HSM
          generalize listF S2 x.a.data.toList = L at *
          obtain ⟨ln, hln⟩ : ∃ ln, L.length = ln := ⟨_, rfl⟩
          have HLN := Lib.hid hln
          rw [hln] at HL1 HL2 HLL
          clear hln ht8 hb8 y0 y2 HY0 HY2 HT7 HB7 HKD
          go_upto_region 14 with (fail)
          refine wp_region_ph (by kernel_rfl) [6, 10, 11] [.span 0 0, .span 0 0, .span 0 0, .span 0 0, .span 0 0, .span 0 0, .phase 0, .span 0 1, .span 0 1, .span 0 1, .phase 1, .phase 2, .span 3 3, .span 3 3, .span 3 3, .span 3 3, .span 3 3, .span 3 3, .span 3 3, .span 3 3] [fun z9 => z9 = .pointer (some ⟨p, 0, none⟩), fun z9 => z9 = .bool false, fun z9 => z9 = .bool false, fun z9 => z9 = .pointer (some ⟨p, 0, none⟩), fun z9 => z9 = .pointer (some ⟨og, 2, none⟩), fun z9 => z9 = .string x.a, fun _ => True, fun z9 => z9 = .pointer (some ⟨r, 0, none⟩), fun z9 => z9 = .pointer (some ⟨og, 2, none⟩), fun z9 => z9 = .string x.a, fun _ => True, fun z9 => z9 = .bool true, fun z9 => z9 = .bool false, fun z9 => z9 = .bool false, fun z9 => z9 = .bool false, fun z9 => z9 = .pointer (some ⟨p, 0, none⟩), fun z9 => z9 = .pointer (some ⟨r, 0, none⟩), fun z9 => z9 = .bool true, fun z9 => z9 = .bool false, fun z9 => z9 = .bool false] (I14 wc L ln) (by kernel_rfl) (by kernel_rfl) (by kernel_rfl) (by kernel_rfl) (by kernel_rfl) (by kernel_rfl) rfl rfl ((show Below wc.heap.size wc wc.drew from (Below.refl _ _).drew)) ?steps ?done
          case steps =>
            refine ⟨?_, ?_, ?_, ?_, ?_, ?_, ?_, ?_, ?_, ?_, ?_, ?_, ?_, ?_, ?_, ?_, ?_, ?_, ?_, ?_, trivial⟩
            · intro us au w2 k0 hlo hhi ha hd hst hI
              obtain rfl : k0 = 0 := by omega
              have q5 := slot_far (t := 5) (v := .pointer (some ⟨p, 0, none⟩)) ha (by kernel_rfl) (by kernel_rfl)
              have p5 := slot_norm q5
              clear ha hd hst
              exact StepI.pure (v := .pointer (some ⟨p, 0, none⟩)) rfl rfl (by go_simp) ⟨rfl, hI⟩
            · intro us au w2 k1 hlo hhi ha hd hst hI
              obtain rfl : k1 = 0 := by omega
              have e0 := hd 0 _ (by kernel_rfl) rfl
              have q65 := slot_at (t := 65) 0 ha (by kernel_rfl) (by kernel_rfl) (by kernel_rfl) e0
              have p65 := slot_norm q65
              clear ha hd hst
              exact StepI.pure (v := .bool false) rfl rfl (by go_simp) ⟨rfl, hI⟩
            · intro us au w2 k2 hlo hhi ha hd hst hI
              obtain rfl : k2 = 0 := by omega
              have e1 := hd 1 _ (by kernel_rfl) rfl
              have q66 := slot_at (t := 66) 1 ha (by kernel_rfl) (by kernel_rfl) (by kernel_rfl) e1
              have p66 := slot_norm q66
              clear ha hd hst
              exact StepI.pure (v := .bool false) rfl rfl (by go_simp) ⟨rfl, hI⟩
            · intro us au w2 k3 hlo hhi ha hd hst hI
              obtain rfl : k3 = 0 := by omega
              have e2 := hd 2 _ (by kernel_rfl) rfl
              have q5 := slot_far (t := 5) (v := .pointer (some ⟨p, 0, none⟩)) ha (by kernel_rfl) (by kernel_rfl)
              have p5 := slot_norm q5
              have hg := slot_at (t := 67) 2 ha (by kernel_rfl) (by kernel_rfl) (by kernel_rfl) e2
              clear ha hd hst
              exact StepI.pure (v := .pointer (some ⟨p, 0, none⟩)) rfl (wanted_at rfl rfl hg) (by go_simp) ⟨rfl, hI⟩
            · intro us au w2 k4 hlo hhi ha hd hst hI
              obtain rfl : k4 = 0 := by omega
              have e2 := hd 2 _ (by kernel_rfl) rfl
              have q10 := slot_far (t := 10) (v := .pointer (some ⟨og, 0, none⟩)) ha (by kernel_rfl) (by kernel_rfl)
              have p10 := slot_norm q10
              have hg := slot_at (t := 67) 2 ha (by kernel_rfl) (by kernel_rfl) (by kernel_rfl) e2
              clear ha hd hst
              exact StepI.pure (v := .pointer (some ⟨og, 2, none⟩)) rfl (wanted_at rfl rfl hg) (by go_simp) ⟨rfl, hI⟩
            · intro us au w2 k5 hlo hhi ha hd hst hI
              obtain rfl : k5 = 0 := by omega
              have e4 := hd 4 _ (by kernel_rfl) rfl
              have e2 := hd 2 _ (by kernel_rfl) rfl
              have q69 := slot_at (t := 69) 4 ha (by kernel_rfl) (by kernel_rfl) (by kernel_rfl) e4
              have p69 := slot_norm q69
              have hg := slot_at (t := 67) 2 ha (by kernel_rfl) (by kernel_rfl) (by kernel_rfl) e2
              clear ha hd hst
              have kk : w2.cell? ⟨og, 2, none⟩ = some (.string x.a) := (hI.low.cell (p := ⟨og, 2, none⟩) (World.block_lt_of_cell? wc _ HY8.out)).trans HY8.out
              exact StepI.pure (v := .string x.a) rfl (wanted_at rfl rfl hg) (by go_simp) ⟨rfl, hI⟩
            · intro us au w2 ha hd hst hI
              have e3 := hd 3 _ (by kernel_rfl) rfl
              have e5 := hd 5 _ (by kernel_rfl) rfl
              have e2 := hd 2 _ (by kernel_rfl) rfl
              have q68 := slot_at (t := 68) 3 ha (by kernel_rfl) (by kernel_rfl) (by kernel_rfl) e3
              have p68 := slot_norm q68
              have q70 := slot_at (t := 70) 5 ha (by kernel_rfl) (by kernel_rfl) (by kernel_rfl) e5
              have p70 := slot_norm q70
              have hg := slot_at (t := 67) 2 ha (by kernel_rfl) (by kernel_rfl) (by kernel_rfl) e2
              clear ha hd hst
              have hlo := I14.low hI
              refine StepI.call (f := 13) (args := #[.pointer (some ⟨p, 0, none⟩), .string x.a]) rfl (wanted_at rfl rfl hg) (by go_simp) ?_
              refine (HL1.out w2 hlo).mono ?_
              rintro e w5 ⟨hb5, A5, rfl, ho5⟩
              exact ⟨_, rfl, trivial, hlo.trans (hb5.mono hlo.size), A5, rfl, ho5.nmsAt⟩
            · intro us au w2 k7 hlo hhi ha hd hst hI
              have e2 := hd 2 _ (by kernel_rfl) rfl
              have q7 := slot_far (t := 7) (v := .pointer (some ⟨r, 0, none⟩)) ha (by kernel_rfl) (by kernel_rfl)
              have p7 := slot_norm q7
              have hg := slot_at (t := 67) 2 ha (by kernel_rfl) (by kernel_rfl) (by kernel_rfl) e2
              clear ha hd hst
              exact StepI.pure (v := .pointer (some ⟨r, 0, none⟩)) rfl (wanted_at rfl rfl hg) (by go_simp) ⟨rfl, hI⟩
            · intro us au w2 k8 hlo hhi ha hd hst hI
              have e2 := hd 2 _ (by kernel_rfl) rfl
              have q10 := slot_far (t := 10) (v := .pointer (some ⟨og, 0, none⟩)) ha (by kernel_rfl) (by kernel_rfl)
              have p10 := slot_norm q10
              have hg := slot_at (t := 67) 2 ha (by kernel_rfl) (by kernel_rfl) (by kernel_rfl) e2
              clear ha hd hst
              exact StepI.pure (v := .pointer (some ⟨og, 2, none⟩)) rfl (wanted_at rfl rfl hg) (by go_simp) ⟨rfl, hI⟩
            · intro us au w2 k9 hlo hhi ha hd hst hI
              have e8 := hd 8 _ (by kernel_rfl) rfl
              have e2 := hd 2 _ (by kernel_rfl) rfl
              have q73 := slot_at (t := 73) 8 ha (by kernel_rfl) (by kernel_rfl) (by kernel_rfl) e8
              have p73 := slot_norm q73
              have hg := slot_at (t := 67) 2 ha (by kernel_rfl) (by kernel_rfl) (by kernel_rfl) e2
              clear ha hd hst
              have kk : w2.cell? ⟨og, 2, none⟩ = some (.string x.a) := (hI.low.cell (p := ⟨og, 2, none⟩) (World.block_lt_of_cell? wc _ HY8.out)).trans HY8.out
              exact StepI.pure (v := .string x.a) rfl (wanted_at rfl rfl hg) (by go_simp) ⟨rfl, hI⟩
            · intro us au w2 ha hd hst hI
              have e7 := hd 7 _ (by kernel_rfl) rfl
              have e9 := hd 9 _ (by kernel_rfl) rfl
              have e2 := hd 2 _ (by kernel_rfl) rfl
              have q72 := slot_at (t := 72) 7 ha (by kernel_rfl) (by kernel_rfl) (by kernel_rfl) e7
              have p72 := slot_norm q72
              have q74 := slot_at (t := 74) 9 ha (by kernel_rfl) (by kernel_rfl) (by kernel_rfl) e9
              have p74 := slot_norm q74
              have hg := slot_at (t := 67) 2 ha (by kernel_rfl) (by kernel_rfl) (by kernel_rfl) e2
              clear ha hd hst
              obtain ⟨hlo, A6, hv6, hn6⟩ := hI
              refine StepI.call (f := 30) (args := #[.pointer (some ⟨r, 0, none⟩), .string x.a]) rfl (wanted_at rfl rfl hg) (by go_simp) ?_
              refine (HL2.out w2 hlo).mono ?_
              rintro e w5 ⟨hb5, A5, c5, rfl, ho5⟩
              exact ⟨_, rfl, trivial, hlo.trans (hb5.mono hlo.size), ⟨A6, hv6, hn6.below hb5⟩, A5, c5, rfl, ho5.nmsAt⟩
            · intro us au w2 ha hd hst hI
              obtain ⟨_⟩ := hd 6 _ (by kernel_rfl) rfl
              obtain ⟨_⟩ := hd 10 _ (by kernel_rfl) rfl
              have e2 := hd 2 _ (by kernel_rfl) rfl
              have q71 := slot_at (t := 71) 6 ha (by kernel_rfl) (by kernel_rfl) (by kernel_rfl) (Eq.refl (us 6))
              have p71 := slot_norm q71
              have q75 := slot_at (t := 75) 10 ha (by kernel_rfl) (by kernel_rfl) (by kernel_rfl) (Eq.refl (us 10))
              have p75 := slot_norm q75
              have hg := slot_at (t := 67) 2 ha (by kernel_rfl) (by kernel_rfl) (by kernel_rfl) e2
              clear ha hd hst
              obtain ⟨hlo, ⟨A6, hv6, hn6⟩, A5, c5, hv5, hn5⟩ := hI
              rw [hv6] at p71
              rw [hv5] at p75
              refine StepI.call (f := 26) (args := #[.slice A6 ln ln, .slice A5 ln c5]) rfl (wanted_at rfl rfl hg) (by go_simp) ?_
              refine (texts_any A6 A5 ln ln c5 L w2 hn6 hn5 HLN.out (by have := HLL.out; omega)).mono ?_
              rintro e w5 ⟨rfl, hb⟩
              exact ⟨_, rfl, rfl, hlo.trans (hb.mono hlo.size), ⟨A6, hv6, hn6.below hb⟩, A5, c5, hv5, hn5.below hb⟩
            · intro us au w2 k12 hlo hhi ha hd hst hI
              obtain rfl : k12 = 3 := by omega
              have e11 := hd 11 _ (by kernel_rfl) rfl
              have e2 := hd 2 _ (by kernel_rfl) rfl
              have q76 := slot_at (t := 76) 11 ha (by kernel_rfl) (by kernel_rfl) (by kernel_rfl) e11
              have p76 := slot_norm q76
              have hg := slot_at (t := 67) 2 ha (by kernel_rfl) (by kernel_rfl) (by kernel_rfl) e2
              clear ha hd hst
              exact StepI.pure (v := .bool false) rfl (wanted_at rfl rfl hg) (by go_simp) ⟨rfl, hI⟩
            · intro us au w2 k13 hlo hhi ha hd hst hI
              obtain rfl : k13 = 3 := by omega
              have e2 := hd 2 _ (by kernel_rfl) rfl
              have e12 := hd 12 _ (by kernel_rfl) rfl
              have q67 := slot_at (t := 67) 2 ha (by kernel_rfl) (by kernel_rfl) (by kernel_rfl) e2
              have p67 := slot_norm q67
              have q77 := slot_at (t := 77) 12 ha (by kernel_rfl) (by kernel_rfl) (by kernel_rfl) e12
              have p77 := slot_norm q77
              clear ha hd hst
              exact StepI.pure (v := .bool false) rfl rfl (by go_simp) ⟨rfl, hI⟩
            · intro us au w2 k14 hlo hhi ha hd hst hI
              obtain rfl : k14 = 3 := by omega
              have e13 := hd 13 _ (by kernel_rfl) rfl
              have q78 := slot_at (t := 78) 13 ha (by kernel_rfl) (by kernel_rfl) (by kernel_rfl) e13
              have p78 := slot_norm q78
              clear ha hd hst
              exact StepI.pure (v := .bool false) rfl rfl (by go_simp) ⟨rfl, hI⟩
            · intro us au w2 k15 hlo hhi ha hd hst hI
              obtain rfl : k15 = 3 := by omega
              have e14 := hd 14 _ (by kernel_rfl) rfl
              have q5 := slot_far (t := 5) (v := .pointer (some ⟨p, 0, none⟩)) ha (by kernel_rfl) (by kernel_rfl)
              have p5 := slot_norm q5
              have hg := slot_at (t := 79) 14 ha (by kernel_rfl) (by kernel_rfl) (by kernel_rfl) e14
              clear ha hd hst
              exact StepI.pure (v := .pointer (some ⟨p, 0, none⟩)) rfl (wanted_at rfl rfl hg) (by go_simp) ⟨rfl, hI⟩
            · intro us au w2 k16 hlo hhi ha hd hst hI
              obtain rfl : k16 = 3 := by omega
              have e14 := hd 14 _ (by kernel_rfl) rfl
              have q7 := slot_far (t := 7) (v := .pointer (some ⟨r, 0, none⟩)) ha (by kernel_rfl) (by kernel_rfl)
              have p7 := slot_norm q7
              have hg := slot_at (t := 79) 14 ha (by kernel_rfl) (by kernel_rfl) (by kernel_rfl) e14
              clear ha hd hst
              exact StepI.pure (v := .pointer (some ⟨r, 0, none⟩)) rfl (wanted_at rfl rfl hg) (by go_simp) ⟨rfl, hI⟩
            · intro us au w2 k17 hlo hhi ha hd hst hI
              obtain rfl : k17 = 3 := by omega
              have e15 := hd 15 _ (by kernel_rfl) rfl
              have e16 := hd 16 _ (by kernel_rfl) rfl
              have e14 := hd 14 _ (by kernel_rfl) rfl
              have q80 := slot_at (t := 80) 15 ha (by kernel_rfl) (by kernel_rfl) (by kernel_rfl) e15
              have p80 := slot_norm q80
              have q81 := slot_at (t := 81) 16 ha (by kernel_rfl) (by kernel_rfl) (by kernel_rfl) e16
              have p81 := slot_norm q81
              have hg := slot_at (t := 79) 14 ha (by kernel_rfl) (by kernel_rfl) (by kernel_rfl) e14
              clear ha hd hst
              refine StepI.call (f := 31) (args := #[.pointer (some ⟨p, 0, none⟩), .pointer (some ⟨r, 0, none⟩)]) rfl (wanted_at rfl rfl hg) (by go_simp) ?_
              refine (HSM.out w2 hI.low).mono ?_
              rintro e w5 ⟨rfl, hb⟩
              exact ⟨_, rfl, rfl, hI.grow hb⟩
            · intro us au w2 k18 hlo hhi ha hd hst hI
              obtain rfl : k18 = 3 := by omega
              have e17 := hd 17 _ (by kernel_rfl) rfl
              have e14 := hd 14 _ (by kernel_rfl) rfl
              have q82 := slot_at (t := 82) 17 ha (by kernel_rfl) (by kernel_rfl) (by kernel_rfl) e17
              have p82 := slot_norm q82
              have hg := slot_at (t := 79) 14 ha (by kernel_rfl) (by kernel_rfl) (by kernel_rfl) e14
              clear ha hd hst
              exact StepI.pure (v := .bool false) rfl (wanted_at rfl rfl hg) (by go_simp) ⟨rfl, hI⟩
            · intro us au w2 k19 hlo hhi ha hd hst hI
              obtain rfl : k19 = 3 := by omega
              have e14 := hd 14 _ (by kernel_rfl) rfl
              have e18 := hd 18 _ (by kernel_rfl) rfl
              have q79 := slot_at (t := 79) 14 ha (by kernel_rfl) (by kernel_rfl) (by kernel_rfl) e14
              have p79 := slot_norm q79
              have q83 := slot_at (t := 83) 18 ha (by kernel_rfl) (by kernel_rfl) (by kernel_rfl) e18
              have p83 := slot_norm q83
              clear ha hd hst
              exact StepI.pure (v := .bool false) rfl rfl (by go_simp) ⟨rfl, hI⟩
          case done =>
            intro us w2 hI hd
            have eL := hd 19 _ (by decide) rfl
            have hlo : Below wc.heap.size wc w2 := I14.low hI
            have HT9 := Lib.hid (HT8.out.below hlo)
            have HB9 := Lib.hid (HB8.out.trans (hlo.mono HB8.out.size))
            clear hd hI hlo
            simp only [putAll]
            go_simp
            go_wp2
            go_roundw
            case rel => exact ⟨i + 1, p, r, A, B, S2, rfl, rfl, rfl, by omega, by omega, HT9.out, HI7.out, HD7.out, HB9.out⟩
            case measure => simp [intOf]; omega
      · have hdone : (decide ((i : Int) < (n : Int)) = false ∧ decide (i < n) = false) ∨ ((decide ((i : Int) < (n : Int)) = true ∧ decide (i < n) = true) ∧ decide ((i : Int) < 60) = false ∧ decide (i < 60) = false) := by
          by_cases h : i < n
          · exact .inr ⟨⟨decide_eq_true (by omega), decide_eq_true h⟩, decide_eq_false (by omega), decide_eq_false (by omega)⟩
          · exact .inl ⟨decide_eq_false (by omega), decide_eq_false h⟩
        clear hend hT hI hD hB
        rcases hdone with ⟨d2, d2'⟩ | ⟨⟨d2, d2'⟩, d3, d3'⟩
        · go_wp2
          go_ret
          exact ⟨rfl, HB.out⟩
        · go_wp2
          go_ret
          exact ⟨rfl, HB.out⟩
  · have HNW := Lib.hid (fsNew_no w k hk)
    have HRW := Lib.hid (fun W => rnew_no W k hk)
    have hn9 := HN.out
    clear hk
    by_cases hn0 : 0 < n
    · have d2 : decide ((0 : Int) < (n : Int)) = true := decide_eq_true (by omega)
      have d2' : decide (0 < n) = true := decide_eq_true hn0
      clear hn0
      go_enter Try.func8, Try.ntmps8
      go_upto_region 2 with (go_at_call 9; refine HNW.out.mono ?_; rintro e w1 ⟨rfl, hb1⟩)
      go_upto_region 3 with (go_at_call 27; refine (HRW.out w1).mono ?_; rintro e w2 ⟨rfl, rfl⟩)
      go_wp2_with (go_at_call 15; refine (awake1_any w1).mono ?_; rintro e w3 ⟨rfl, hb3⟩; have HB3 := Lib.hid (hb1.trans (hb3.mono hb1.size)); clear hb3)
      go_loopw [9, 5] (fun v9 v5 wz => v9 = .int .i64 0 ∧ v5 = .pointer none ∧ Below w.heap.size w wz) (fun v9 _ _ => 0)
      case atStart => exact ⟨rfl, rfl, HB3.out⟩
      case round =>
        obtain ⟨rfl, rfl, hb⟩ := hrel
        go_wp2
        go_ret
        exact ⟨rfl, hb⟩
    · have d2 : decide ((0 : Int) < (n : Int)) = false := decide_eq_false (by omega)
      have d2' : decide (0 < n) = false := decide_eq_false hn0
      clear hn0
      go_enter Try.func8, Try.ntmps8
      go_upto_region 2 with (go_at_call 9; refine HNW.out.mono ?_; rintro e w1 ⟨rfl, hb1⟩)
      go_upto_region 3 with (go_at_call 27; refine (HRW.out w1).mono ?_; rintro e w2 ⟨rfl, rfl⟩)
      go_wp2_with (go_at_call 15; refine (awake1_any w1).mono ?_; rintro e w3 ⟨rfl, hb3⟩; have HB3 := Lib.hid (hb1.trans (hb3.mono hb1.size)); clear hb3)
      go_loopw [9, 5] (fun v9 v5 wz => v9 = .int .i64 0 ∧ v5 = .pointer none ∧ Below w.heap.size w wz) (fun v9 _ _ => 0)
      case atStart => exact ⟨rfl, rfl, HB3.out⟩
      case round =>
        obtain ⟨rfl, rfl, hb⟩ := hrel
        go_wp2
        go_ret
        exact ⟨rfl, hb⟩
end Go.Proofs.Ytmoaabjiokjjlaa
namespace Go.Proofs.Ytmoaabjiokjjlaa
open Go.Joins Go.ChangeShapes Go.WideShapes Go.ChangeAt Go.RowKit Go.Deep
set_option linter.unusedVariables false

theorem weightsAll_mem {H : Type} {P : Program} {e : TypeId} {n : Nat} {d : DataW H} : ∀ {l : List (DataW H)}, d ∈ l → n ∈ d.weights P e → n ∈ DataW.weightsAll P e l
  | d0 :: l, hd, hn => by
    simp only [DataW.weightsAll, List.mem_append]
    rcases List.mem_cons.1 hd with rfl | h
    · exact .inl hn
    · exact .inr (weightsAll_mem h hn)
/-- A slice in a field, with its bound. -/
theorem openIntsB {H : Type} {enc : TypeId × Value → H} {P : Program} {W : World} {n : Nat} {t e : TypeId} {k : IntKind} {v : Value} {y : DataW H × List MemPlace}
    (ht : P.underlying t = some (.slice e)) (he : P.underlying e = some (.int k)) (hC : P.cellsOf e = 1) (h : DataW.trod enc P W 0 (fun _ => true) true n t [v] = some y) (hb : ∀ m ∈ y.1.weights P t, m ≤ reachBytes) :
    ∃ (A : Option Addr) (c : Nat) (xs : List Int), v = .slice A xs.length c ∧ Ints k W A xs ∧ (∀ x ∈ xs, (Lit.int k x).wf = true) ∧ xs.length ≤ c ∧ c ≤ 9223372036854775807 ∧ xs.length * P.bytesOf e ≤ reachBytes := by
  obtain ⟨A, c, xs, rfl, hI, hw, g1, g2⟩ := openIntsF ht he hC h
  refine ⟨A, c, xs, rfl, hI, hw, g1, g2, ?_⟩
  rcases open_ints ht he hC h with ⟨hcs, _⟩ | ⟨x, l, c', zs, hcs, _, hl, hm, hz, hx, hcell, hwz⟩
  · injection hcs with hcs
    injection hcs with _ h1 _
    rw [h1, Nat.zero_mul]; exact Nat.zero_le _
  · injection hcs with hcs
    injection hcs with _ h1 _
    have hzl : zs.length = c' := by simpa using hz
    subst hx
    have hs := hb ((zs.length) * P.bytesOf e) (by simp [DataW.weights, ht, lits]; left; congr 1; omega)
    exact Nat.le_trans (Nat.mul_le_mul_right _ (by omega)) hs
theorem openOpsP {H : Type} {enc : TypeId × Value → H} {P : Program} {W : World} {t e : TypeId} {v : Value} {d : DataW H} {p : List MemPlace} {base : Nat} {f0 f1 f2 f3 f4 f5 : Field} {e4 e5 : TypeId} {ts : List TypeId} {ds : List (DataW H)} {j : Nat}
    (ht : P.underlying t = some (.slice e)) (he : P.underlying e = some (.struct #[f0, f1, f2, f3, f4, f5])) (hone : oneCellFields P #[f0, f1, f2, f3, f4, f5] = true) (hC : P.cellsOf e = 6)
    (h0 : P.underlying f0.type = some (.int .i64)) (h1 : P.underlying f1.type = some (.int .i64)) (h2 : P.underlying f2.type = some .string) (h3 : P.underlying f3.type = some .string)
    (h4 : P.underlying f4.type = some (.slice e4)) (h4' : P.underlying e4 = some (.int .u8)) (hC4 : P.cellsOf e4 = 1) (h5 : P.underlying f5.type = some (.slice e5)) (h5' : P.underlying e5 = some (.int .i64)) (hC5 : P.cellsOf e5 = 1)
    (hB4 : P.bytesOf e4 = 1) (hval : Value.okWide P W .any base t v) (h : DataW.Trod enc P W 0 (fun _ => true) true t v d p) (hsz : (DataW.weightsEach P ts ds).all (· ≤ reachBytes) = true) (htj : ts[j]? = some t) (hdj : ds[j]? = some d) :
    ∃ (A : Option Addr) (n c : Nat), v = .slice A n c ∧ OpsB W A n ∧ n ≤ 9223372036854775807 := by
  obtain ⟨a0, len0, cap0, rfl⟩ := okWide_slice ht hval
  obtain ⟨fuel, hf⟩ := h
  rcases open_slice_fields ht he hone hC hf with ⟨hcs, _⟩ | ⟨x, l, c, m, D, Pl, hcs, _, hl, hm, hmm, hx, hi⟩
  · simp [Value.cells] at hcs
    obtain ⟨rfl, rfl, rfl⟩ := hcs
    exact ⟨none, 0, 0, rfl, fun h => absurd h (by omega), by omega⟩
  · simp [Value.cells] at hcs
    obtain ⟨rfl, rfl, rfl⟩ := hcs
    unfold maxLen at hm
    simp only [Prod.mk.injEq] at hx
    obtain ⟨hd, _⟩ := hx
    refine ⟨some x, len0, cap0, rfl, fun hn => ?_, by omega⟩
    have hmn : m = cap0 := hmm
    obtain ⟨b, o, sp⟩ := x
    obtain ⟨ys, n0, _, _, _, hfld⟩ := hi 0 (by omega)
    obtain ⟨u0, y0, hc0, _, _⟩ := hfld 0 f0 rfl
    have hsp : sp = none := by simpa [Addr.add] using World.cell?_spot hc0
    subst hsp
    have had : ∀ k, (⟨b, o, none⟩ : Addr).add k = ⟨b, o + k, none⟩ := fun k => by unfold Addr.add; split <;> simp_all
    refine ⟨b, o, rfl, ?_, fun i hin => ?_⟩
    · have := World.block_lt_of_cell? W _ hc0
      simpa [Addr.add] using this
    · obtain ⟨ys, n0, hDi, _, hlen, hfld⟩ := hi i (by omega)
      obtain ⟨u0, y0, hc0, _, t0⟩ := hfld 0 f0 rfl
      obtain ⟨u1, y1, hc1, _, t1⟩ := hfld 1 f1 rfl
      obtain ⟨u2, y2, hc2, _, t2⟩ := hfld 2 f2 rfl
      obtain ⟨u3, y3, hc3, _, t3⟩ := hfld 3 f3 rfl
      obtain ⟨u4, y4, hc4, gg4, t4⟩ := hfld 4 f4 rfl
      obtain ⟨u5, y5, hc5, _, t5⟩ := hfld 5 f5 rfl
      obtain ⟨a0, rfl, w0⟩ := wfOf h0 t0
      obtain ⟨a1, rfl, w1⟩ := wfOf h1 t1
      obtain ⟨s2, e2, _, z2⟩ := DataW.trod_string h2 t2
      obtain ⟨s3, e3, _, z3⟩ := DataW.trod_string h3 t3
      injection e2 with e2 _
      injection e3 with e3 _
      subst e2; subst e3
      have hw9 : ∀ m ∈ y4.1.weights P f4.type, m ≤ reachBytes := by
        intro m hm
        have e1 : m ∈ DataW.weightsEach P (#[f0, f1, f2, f3, f4, f5].toList.map (·.type)) (ys.map (·.1)) := DataW.weights_mem_each (j := 4) (t := f4.type) (d := y4.1) rfl (by rw [List.getElem?_map, gg4]; rfl) m hm
        have e2 : m ∈ (D i).weights P e := by rw [hDi]; simp only [DataW.weights, he]; exact e1
        have e3 : m ∈ d.weights P t := by
          rw [hd]
          simp only [DataW.weights, ht]
          refine List.mem_cons_of_mem _ (List.mem_append_left _ (weightsAll_mem ?_ e2))
          exact List.mem_map.2 ⟨i, List.mem_range.2 hin, rfl⟩
        have := List.all_eq_true.1 hsz m (DataW.weights_mem_each htj hdj m e3)
        simpa using this
      obtain ⟨A4, c4, xs, rfl, hI4, hw4, g4, g4', gb⟩ := openIntsB h4 h4' hC4 t4 hw9
      rw [hB4, Nat.mul_one] at gb
      obtain ⟨A5, c5, zs, rfl, hI5, hw5, g5, g5'⟩ := openIntsF h5 h5' hC5 t5
      rw [had] at hc0 hc1 hc2 hc3 hc4 hc5
      unfold maxLen at z2 z3
      exact ⟨⟨a0, a1, s2, s3, A4, c4, xs, A5, c5, zs⟩, ⟨hc0, hc1, hc2, hc3, hc4, hc5, w0, w1, by show s2.size ≤ _; omega, by show s3.size ≤ _; omega, hI4, bytes_wf' _ hw4, by show xs.length ≤ _; omega, hI5, hw5, by show zs.length ≤ _; omega⟩, gb⟩
end Go.Proofs.Ytmoaabjiokjjlaa
