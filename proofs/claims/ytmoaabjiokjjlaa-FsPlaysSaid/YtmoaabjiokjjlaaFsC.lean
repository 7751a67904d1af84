/- Reading a file: Clip, Clone, Read. -/
import Derived.Test.YtmoaabjiokjjlaaFsB
import Derived.Lib.SliceRun
import Derived.StillTailTactics
import Derived.Deep.RegionHeld3
namespace Go.Proofs.Ytmoaabjiokjjlaa
open Go.RowKit
set_option linter.unusedVariables false
set_option linter.unusedSimpArgs false

theorem info_u8' : (Try.prog.info? 5).map (fun i => (i.zero, i.size, i.bytes)) = some (some (.int .u8 0), 1, 1) := by kernel_rfl
theorem OwnS.empty {w : World} {base : Nat} {e : TypeId} {cs : Array Value} {g c : Nat} (hb : base ≤ g) (h : w.heap[g]? = some (.cells cs e)) (hc : c ≤ maxLen) (hs : c ≤ cs.size) : OwnS w base e 1 (.slice (some ⟨g, 0, none⟩) 0 c) 0 [] :=
  ⟨rfl, .inr ⟨g, 0, c, cs, rfl, hb, ⟨_, h, .inl (Nat.le_refl _)⟩, Nat.zero_le _, hc, by omega, by simp⟩⟩
theorem OwnS.clip {w : World} {base : Nat} {e : TypeId} {A : Option Addr} {n c : Nat} {xs : List Value} (h : OwnS w base e 1 (.slice A n c) n xs) : OwnS w base e 1 (.slice A n n) n xs := by
  refine ⟨h.1, ?_⟩
  rcases h.2 with ⟨hv, rfl⟩ | ⟨g, off, cap, cur, hv, hb, hg, hn, hm, hs, ht⟩
  · injection hv with hA _ hc
    subst hA
    exact .inl ⟨rfl, rfl⟩
  · injection hv with hA _ hc
    subst hA; subst hc
    exact .inr ⟨g, off, n, cur, rfl, hb, hg, Nat.le_refl _, by omega, by omega, ht⟩
set_option maxRecDepth 100000 in
theorem clip_any (A : Option Addr) (n c : Nat) (w : World) (hn : n ≤ c) (hc : c ≤ 9223372036854775807) :
    Calls Try.prog 38 #[.slice A n c] w fun e w' => e = .returned (.slice A n n) ∧ w = w' := by
  have h0 : (n : Int) ≤ c := by omega
  go_enter Try.func38, Try.ntmps38
  go_wp2
  go_ret
  exact ⟨rfl, rfl⟩
set_option maxRecDepth 100000 in
theorem clone_any (A : Option Addr) (n c : Nat) (xs : List Int) (w : World) (hI : Ints .u8 w A xs) (hn : xs.length = n) (hsz : n ≤ 140737488355000) (hA : A = none → n = 0) :
    Calls Try.prog 41 #[.slice A n c] w fun e w' => ∃ A' c', e = .returned (.slice A' n c') ∧ OwnS w' w.heap.size 5 1 (.slice A' n c') n (xs.map (Value.int .u8)) ∧ Below w.heap.size w w' := by
  subst hn
  obtain ⟨i0, hi, hz0, hz1, hz2⟩ := info_parts info_u8'
  have he := fun (W : World) (a : Option Addr) => Lib.run_eql_slice_nil (P := Try.prog) W 27 5 a xs.length c 0 0 Try.underlying27
  cases A with
  | none =>
    have h0 := hA rfl
    have hx : xs = [] := List.eq_nil_of_length_eq_zero h0
    subst hx
    have he0 := fun (W : World) => Lib.run_eql_slice_nil (P := Try.prog) W 27 5 none 0 c 0 0 Try.underlying27
    clear he
    show Calls Try.prog 41 #[.slice none 0 c] w _
    go_enter Try.func41, Try.ntmps41
    go_wp2
    go_ret
    exact ⟨none, 0, rfl, OwnS.nil _ _ _ _, Below.refl _ _⟩
  | some a =>
    go_enter Try.func41, Try.ntmps41
    go_wp2_with (at_builtin; go_loud (refine wpList_append_S rfl (.tmp 5) (.tmp 6) 27 27 rfl i0 (.int .u8 0) 1 (.slice 5) Try.underlying27 Try.underlying27 (fun _ h => by cases h) hi hz0 hz1 hz2 rfl rfl rfl (OwnS.empty (base := w.heap.size) (c := 0) (Nat.le_refl _) (heap_alloc_new w _) (by decide) (by simp)) (Src.ints (hI.below ((Below.refl _ _).alloc (Nat.le_refl _) _))) ?_ ?_ ?_ ?_; (unfold maxLen; omega); omega; (simp); intro A5 c5 w5 ho5 hg5 hw5))
    rw [Nat.zero_add, List.nil_append] at ho5
    go_ret
    exact ⟨A5, c5, rfl, ho5, ((Below.refl _ _).alloc (Nat.le_refl _) _).grown hg5 (by simp) (fun k h => by injection h with h; exact Nat.le_of_eq h)⟩

theorem OwnS.capm {w : World} {base : Nat} {e : TypeId} {size n c : Nat} {A : Option Addr} {xs : List Value} (h : OwnS w base e size (.slice A n c) n xs) : c ≤ 9223372036854775807 := by
  rcases h.2 with ⟨hv, rfl⟩ | ⟨g', off, cap, cur, hv, _, _, hn, hm, _⟩
  · injection hv with _ _ hc; omega
  · injection hv with _ _ hc
    unfold maxLen at hm
    omega

def readL (S : Fs) (n : Nm) : List Int := if ofF S n = 0 then bytesF S n else []
/-- What is read: a new row. -/
def ReadPost (S : Fs) (n : Nm) (w : World) (e : Ending) (w' : World) : Prop :=
  Below w.heap.size w w' ∧ ∃ A, e = .returned (.tuple #[.slice A (readL S n).length (readL S n).length, .int .i64 (ofF S n)]) ∧ OwnS w' w.heap.size 5 1 (.slice A (readL S n).length (readL S n).length) (readL S n).length ((readL S n).map (Value.int .u8))
theorem OwnS.none_ {w : World} {base size n c : Nat} {e : TypeId} {xs : List Value} (h : OwnS w base e size (.slice none n c) n xs) : n = 0 := by
  rcases h.2 with ⟨_, h⟩ | ⟨g, off, cap, cur, hv, _⟩
  · exact h
  · injection hv with h1; cases h1
set_option maxRecDepth 100000 in
set_option maxHeartbeats 2000000 in
theorem read_any (w : World) (F : Nat → Prop) (q : Pl) (S : Fs) (N : Nat) (h : FsAt w F q S) (hI : Inv N 16777216 S) (s : ByteArray) (hs : s.size ≤ 9223372036854775807) :
    Calls Try.prog 14 #[ptrV q.p, .string s] w (ReadPost S s.data.toList w) := by
  have HOF := Lib.hid (of_any w F q S h s hs)
  have HH := Lib.hid h
  have HI := Lib.hid hI
  have HPO : Hid (∀ e w', ReadPost S s.data.toList w e w' = (Below w.heap.size w w' ∧ ∃ A, e = .returned (.tuple #[.slice A (readL S s.data.toList).length (readL S s.data.toList).length, .int .i64 (ofF S s.data.toList)]) ∧ OwnS w' w.heap.size 5 1 (.slice A (readL S s.data.toList).length (readL S s.data.toList).length) (readL S s.data.toList).length ((readL S s.data.toList).map (Value.int .u8)))) := Lib.hid (fun _ _ => rfl)
  have HRL : Hid (readL S s.data.toList = if ofF S s.data.toList = 0 then bytesF S s.data.toList else []) := Lib.hid rfl
  have HBF : Hid (∀ i x, getN S.now s.data.toList = some i → S.files[i]? = some x → bytesF S s.data.toList = x.b) := Lib.hid (by
    intro i x h1 h2
    unfold bytesF
    rw [h1]
    show ((S.files[i]?).map Fl.b).getD [] = _
    rw [h2]
    rfl)
  generalize ReadPost S s.data.toList w = POST at *
  unfold OfPost at HOF
  generalize readL S s.data.toList = RL at *
  generalize ofF S s.data.toList = of at *
  generalize bytesF S s.data.toList = BF at *
  clear h hI hs
  unfold ptrV at *
  go_enter Try.func14, Try.ntmps14
  go_wp2_with fail
  refine HOF.out.mono ?_
  rintro e w1 ⟨hb, ⟨hne, rfl⟩ | ⟨rfl, i, hg, rfl⟩⟩
  · have q1 : (of != 0) = true := by simp [hne]
    have HB := Lib.hid hb
    have HR : Hid (RL = []) := Lib.hid (by rw [HRL.out, if_neg hne])
    clear hne hb
    go_wp2
    rw [HPO.out, HR.out]
    exact ⟨HB.out, none, rfl, OwnS.nil _ _ _ _⟩
  · have hlv := HH.out.get HI.out hg
    obtain ⟨x, hx, hf⟩ := HH.out.file i hlv
    have hl := HI.out.big x (List.mem_of_getElem? hx)
    have hf1 : FlAt w1 (q.fb i) (q.fv i) x := hf.same (hb.block _ hf.cel.blk) fun k hk => hb.block k (hf.own.lt k hk).2
    obtain ⟨A, c, hv⟩ := hf1.own.shape
    have c0 : w1.cell? ⟨q.fb i, 0, none⟩ = some (q.fv i) := hf1.cel.cell 0 (by decide)
    have ho := hf1.own
    rw [hv] at c0 ho
    have HR : Hid (RL = x.b) := Lib.hid (by rw [HRL.out, if_pos rfl, HBF.out i x hg hx])
    have HCL := Lib.hid (clone_any A x.b.length c x.b w1 ho.ints rfl (by omega) (fun hA => by subst hA; exact ho.none_))
    have HB := Lib.hid hb
    clear hf hf1 hv ho hg hx hlv hb hl
    generalize q.fb i = g at *
    go_wp2_with fail
    refine HCL.out.mono ?_
    rintro e w2 ⟨A2, c2, rfl, ho, hb2⟩
    have hcp := ho.cap
    have hcm := ho.capm
    have HO := Lib.hid ho
    have HB2 := Lib.hid hb2
    clear ho hb2 c0
    go_wp2_with (go_at_call 38; refine (clip_any _ _ _ _ hcp hcm).mono ?_; rintro e w9 ⟨rfl, rfl⟩)
    rw [HPO.out, HR.out]
    exact ⟨HB.out.trans (HB2.out.mono HB.out.size), A2, rfl, HO.out.clip.base_ HB.out.size⟩
end Go.Proofs.Ytmoaabjiokjjlaa
