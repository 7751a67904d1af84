/- What the document fixes: awake. -/
import Derived.Test.YtmoaabjiokjjlaaFsQ
import Derived.Laws.BytesArg
import Derived.Laws.IdiomStrings
import Derived.Lib.SlBytesConst
namespace Go.Proofs.Ytmoaabjiokjjlaa
open Go.RowKit Go.Maps
set_option linter.unusedVariables false
set_option linter.unusedSimpArgs false

theorem run_str_ints {P : Program} {w : World} (src dst e : TypeId) (hs : P.underlying src = some (.slice e)) (he : P.underlying e = some (.int .u8)) (hd : P.underlying dst = some .string) (A : Option Addr) (c : Nat) (xs : List Int) (h : Ints .u8 w A xs) :
    (convert src dst (.slice A xs.length c)).run P w = .ok (.string (strOfNums xs)) w := by
  by_cases hx : 0 < xs.length
  · obtain ⟨b, o, rfl, _, hc⟩ := h hx
    exact run_convert_bytes_arg w src e hs he b o xs.length c xs rfl (fun i hi => hc i hi) dst hd
  · have hn : xs = [] := List.length_eq_zero_iff.1 (by omega)
    subst hn
    cases A with
    | none => exact run_convert_bytes_nil w src e hs he _ c dst hd
    | some a => exact run_convert_bytes_back w src dst e a c [] hs he hd (fun j hj => by cases hj)
theorem run_bstr (W : World) (A : Option Addr) (n c : Nat) (xs : List Int) (h : Ints .u8 W A xs) (hn : xs.length = n) : (convert 27 9 (.slice A n c)).run Try.prog W = .ok (.string (strOfNums xs)) W := by
  have := run_str_ints (P := Try.prog) (w := W) 27 9 5 Try.underlying27 Try.underlying5 Try.underlying9 A c xs h
  rw [hn] at this
  exact this
theorem aw_inv : Inv 4 16777216 (newF 100) ∧ Inv 4 16777216 awA ∧ Inv 4 16777216 awB ∧ Inv 4 16777216 awC := by
  have h0 : Inv 0 16777216 (newF 100) := Inv.new (by omega)
  have h1 : Inv 1 16777216 awA := h0.create aN
  have h2 : Inv 1 16777216 awB := h1.append aN [120, 121]
  have h3 : Inv 1 16777216 awC := h2.crash 1 []
  exact ⟨h0.mono (by omega), h1.mono (by omega), h2.mono (by omega), h3.mono (by omega)⟩
theorem ints_new2 (w : World) : Ints .u8 (w.alloc (.cells #[.int .u8 120, .int .u8 121] 5 (2, 3))) (some ⟨w.heap.size, 0, none⟩) [120, 121] :=
  Ints.of_new (t := 5) (fz := (2, 3)) (cs := #[.int .u8 120, .int .u8 121]) (heap_alloc_new w _) rfl
set_option maxRecDepth 100000 in
set_option maxHeartbeats 4000000 in
theorem awake1_any (w : World) : Calls Try.prog 15 #[] w fun e w' => e = .returned (.bool true) ∧ Below w.heap.size w w' := by
  obtain ⟨I0, IA, IB, IC⟩ := aw_inv
  have HN := Lib.hid (new_in w 100 (by omega))
  have H1 := Lib.hid (fun (p : Nat) (W : World) (h : FsIn (fun k => w.heap.size ≤ k) p W (newF 100)) (hw : w.heap.size ≤ W.heap.size) => create_in h I0 (by omega) (fun k hk => by omega) ⟨#[97]⟩ (by decide))
  have H2 := Lib.hid (fun (p : Nat) (W : World) (g : Nat) (h : FsIn (fun k => w.heap.size ≤ k ∧ k ≠ g) p W awA) (hw : w.heap.size ≤ W.heap.size) (hg : g < W.heap.size) (hi : Ints .u8 W (some ⟨g, 0, none⟩) [120, 121]) =>
    append_in h IA (by omega) (fun k hk => ⟨by omega, by omega⟩) ⟨#[97]⟩ (by decide) (some ⟨g, 0, none⟩) 2 2 [120, 121] hi rfl (by omega) (fun _ b o e h => by injection e with e; injection e with e1 e2; exact h.2 e1.symm))
  have H3 := Lib.hid (fun (p : Nat) (W : World) (h : FsIn (fun k => w.heap.size ≤ k) p W awB) => read_in h IB ⟨#[97]⟩ (by decide))
  have H4 := Lib.hid (fun (p : Nat) (W : World) (v : Value) (h : FsIn (fun k => w.heap.size ≤ k ∧ v.ownBlock ≠ some k) p W awB) (hw : w.heap.size ≤ W.heap.size) (hv : ∀ k, v.ownBlock = some k → k < W.heap.size) => crash_in h IB (by omega) (fun k hk => ⟨by omega, fun e => by have := hv k e; omega⟩) 1 none 0 0 [] Ints.nil rfl (by omega) (fun _ b o e => by cases e))
  have H5 := Lib.hid (fun (p : Nat) (W : World) (h : FsIn (fun k => w.heap.size ≤ k) p W awC) => read_in h IC ⟨#[97]⟩ (by decide))
  have H6 := Lib.hid (fun (p : Nat) (W : World) (h : FsIn (fun k => w.heap.size ≤ k) p W awC) (hw : w.heap.size ≤ W.heap.size) => create_in h IC (by omega) (fun k hk => by omega) ⟨#[97]⟩ (by decide))
  have H7 := Lib.hid (fun (p : Nat) (W : World) (h : FsIn (fun k => w.heap.size ≤ k) p W awC) => list_in h IC (by omega) ⟨#[]⟩)
  unfold InPost at H1 H2 H6
  unfold ReadPost at H3 H5
  unfold ListPost at H7
  change Hid (∀ p W, FsIn _ p W (newF 100) → w.heap.size ≤ W.heap.size → Calls _ _ _ W fun e W' => e = .returned (.int .i64 0) ∧ FsIn _ p W' awA ∧ Chg _ W W') at H1
  change Hid (∀ p W g, FsIn _ p W awA → w.heap.size ≤ W.heap.size → g < W.heap.size → Ints .u8 W _ _ → Calls _ _ _ W fun e W' => e = .returned (.int .i64 0) ∧ FsIn _ p W' awB ∧ Chg _ W W') at H2
  change Hid (∀ p W, FsIn _ p W awB → Calls _ _ _ W fun e W' => Below W.heap.size W W' ∧ ∃ A, e = .returned (.tuple #[.slice A 2 2, .int .i64 0]) ∧ OwnS W' W.heap.size _ 1 (.slice A 2 2) 2 [.int .u8 120, .int .u8 121]) at H3
  change Hid (∀ p W v, FsIn _ p W awB → w.heap.size ≤ W.heap.size → (∀ k, Value.ownBlock v = some k → k < W.heap.size) → Calls _ _ _ W fun e W' => e = .returned (.tuple #[]) ∧ FsIn _ p W' awC ∧ Chg _ W W') at H4
  change Hid (∀ p W, FsIn _ p W awC → Calls _ _ _ W fun e W' => Below W.heap.size W W' ∧ ∃ A, e = .returned (.tuple #[.slice A 0 0, .int .i64 0]) ∧ OwnS W' W.heap.size _ 1 (.slice A 0 0) 0 []) at H5
  change Hid (∀ p W, FsIn _ p W awC → w.heap.size ≤ W.heap.size → Calls _ _ _ W fun e W' => e = .returned (.int .i64 64) ∧ FsIn _ p W' awC ∧ Chg _ W W') at H6
  change Hid (∀ p W, FsIn _ p W awC → Calls _ _ _ W fun e W' => Below W.heap.size W W' ∧ ∃ A, e = .returned (.slice A 1 1) ∧ OwnS W' W.heap.size _ 1 (.slice A 1 1) 1 _) at H7
  clear I0 IA IB IC
  unfold ptrV at *
  go_enter Try.func15, Try.ntmps15
  go_wp2_with fail
  refine HN.out.mono ?_
  rintro e w1 ⟨p, rfl, h1, hb1⟩
  have HF1 := Lib.hid h1
  have HB1 := Lib.hid hb1
  clear h1 hb1 HN
  go_wp2_with fail
  refine (H1.out p w1 HF1.out HB1.out.size).mono ?_
  rintro e w2 ⟨rfl, h2, hc2⟩
  have HF2 := Lib.hid h2
  have HB2 : Hid (Below w.heap.size w w2) := Lib.hid (HB1.out.trans (hc2.below HB1.out.size (fun k hk h => by omega)))
  clear h2 hc2 H1 HB1 HF1
  have cv0 := fun (w : World) => Lib.run_convert_bytes_const (P := Try.prog) w 27 5 #[.int .u8 120, .int .u8 121] 2 2 Try.underlying27 Try.underlying5
  have HI2 := Lib.hid (ints_new2 w2)
  have hbn : Below w2.heap.size w2 (w2.alloc (.cells #[.int .u8 120, .int .u8 121] 5 (2, 3))) := (Below.refl _ _).alloc (Nat.le_refl _) _
  have HF3 : Hid (FsIn (fun k => w.heap.size ≤ k ∧ k ≠ w2.heap.size) p (w2.alloc (.cells #[.int .u8 120, .int .u8 121] 5 (2, 3))) awA) := Lib.hid ((HF2.out.bound.below hbn).mono (fun k hk => ⟨hk.1, by omega⟩))
  have HB3 : Hid (Below w.heap.size w (w2.alloc (.cells #[.int .u8 120, .int .u8 121] 5 (2, 3)))) := Lib.hid (HB2.out.trans (hbn.mono HB2.out.size))
  have HG3 : Hid (w2.heap.size < (w2.alloc (.cells #[.int .u8 120, .int .u8 121] 5 (2, 3))).heap.size) := Lib.hid (by simp)
  clear hbn HF2
  go_upto_region 6 with (first
    | (go_at_call 11; refine (H2.out p _ w2.heap.size HF3.out HB3.out.size HG3.out HI2.out).mono ?_; rintro e w3 ⟨rfl, h3, hc3⟩))
  have HF4 : Hid (FsIn (fun k => w.heap.size ≤ k) p w3 awB) := Lib.hid (h3.mono fun k hk => hk.1)
  have HB4 : Hid (Below w.heap.size w w3) := Lib.hid (HB3.out.trans (hc3.below HB3.out.size (fun k hk h => by omega)))
  clear h3 hc3 H2 HF3 HB3 HG3 HI2 HB2 cv0
  go_wp2_with fail
  refine (H3.out p w3 HF4.out).mono ?_
  rintro e w4 ⟨hb4, A4, rfl, ho4⟩
  have HF5 : Hid (FsIn (fun k => w.heap.size ≤ k ∧ (Value.slice A4 2 2).ownBlock ≠ some k) p w4 awB) := Lib.hid ((HF4.out.bound.below hb4).mono (fun k hk => ⟨hk.1, fun e => by have := (ho4.lt k e).1; omega⟩))
  have HB5 := Lib.hid (HB4.out.trans (hb4.mono HB4.out.size))
  have HO4 := Lib.hid ho4
  clear hb4 ho4 H3 HF4
  go_wp2_with fail
  refine (H4.out p w4 (.slice A4 2 2) HF5.out HB5.out.size (fun k e => (HO4.out.lt k e).2)).mono ?_
  rintro e w5 ⟨rfl, h5, hc5⟩
  have HF6 : Hid (FsIn (fun k => w.heap.size ≤ k) p w5 awC) := Lib.hid (h5.mono fun k hk => hk.1)
  have HB6 : Hid (Below w.heap.size w w5) := Lib.hid (HB5.out.trans (hc5.below HB5.out.size (fun k hk h => by have := h.1; omega)))
  have HO5 : Hid (OwnS w5 w3.heap.size 5 1 (.slice A4 2 2) 2 [.int .u8 120, .int .u8 121]) := Lib.hid (HO4.out.chg hc5 (fun k hk h => h.2 hk))
  clear h5 hc5 H4 HF5
  go_wp2_with fail
  refine (H5.out p w5 HF6.out).mono ?_
  rintro e w6 ⟨hb6, A6, rfl, ho6⟩
  have HF7 := Lib.hid (HF6.out.below hb6)
  have HB7 := Lib.hid (HB6.out.trans (hb6.mono HB6.out.size))
  have hi6 : Ints .u8 w6 A4 [120, 121] := Ints.below (OwnS.ints (k := .u8) HO5.out) hb6
  have cv6 := run_bstr w6 A4 2 2 [120, 121] hi6 rfl
  rw [show strOfNums [120, 121] = ⟨#[120, 121]⟩ from rfl] at cv6
  clear hb6 ho6 H5 HF6 HO5 hi6
  go_wp2_with (first
    | (go_at_call 13; refine (H7.out p w7 HF8.out).mono ?_; rintro e w8 ⟨hb8, A8, rfl, ho8⟩)
    | (go_at_call 10; refine (H6.out p w6 HF7.out HB7.out.size).mono ?_; rintro e w7 ⟨rfl, h7, hc7⟩; have HF8 := Lib.hid h7; have HB8 : Hid (Below w.heap.size w w7) := Lib.hid (HB7.out.trans (hc7.below HB7.out.size (fun k hk h => by omega)))))
  go_ret
  exact ⟨rfl, HB8.out.trans (hb8.mono HB8.out.size)⟩
end Go.Proofs.Ytmoaabjiokjjlaa
