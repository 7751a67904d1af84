/- Put together for the claim, out of: WkA, WkB, WkC, WkD, WkE, WkF, WkG, WkH, WkZ. -/
import Derived.Test.YtoeipgbnjcgbjaaInfN
import Derived.Test.YtoeipgbnjcgbjaaInfA
import Derived.Test.YtoeipgbnjcgbjaaBits5
import Derived.Test.YtoeipgbnjcgbjaaInfP
import Derived.Test.YtoeipgbnjcgbjaaInfD
import Derived.Test.YtoeipgbnjcgbjaaInfG
import Derived.Test.YtoeipgbnjcgbjaaInfH
import Derived.Test.YtoeipgbnjcgbjaaInfJ
import Derived.Test.YtoeipgbnjcgbjaaInfK
import Derived.StillTailTactics
import Derived.Test.YtoeipgbnjcgbjaaInfL
import Derived.Test.YtoeipgbnjcgbjaaSumRefA
import Derived.Test.YtoeipgbnjcgbjaaSumStr
/- The document's Inflate: its reader in memory; take, fail, symbol, put, Align. -/
namespace Go.Proofs.Ytoeipgbnjcgbjaa
open Go.RowKit
set_option linter.unusedVariables false

theorem u32_or_lo (v b n : Nat) (hv : v < 2 ^ n) (hn : n < 32) (hb : b ≤ 1) : bits .or .u32 (v : Int) ((b * 2 ^ n : Nat) : Int) = ((v + b * 2 ^ n : Nat) : Int) ∧ b * 2 ^ n < 4294967296 := by
  have hp : 2 ^ n ≤ 2 ^ 31 := Nat.pow_le_pow_right (by decide) (by omega)
  have hb2 : b * 2 ^ n ≤ 1 * 2 ^ n := Nat.mul_le_mul_right _ hb
  refine ⟨?_, by omega⟩
  rw [u32_or_nat _ _ (by omega) (by omega), Nat.or_comm, Nat.mul_comm b, ← Nat.two_pow_add_eq_or_of_lt hv]
  omega
set_option maxRecDepth 100000 in
set_option maxHeartbeats 4000000 in
theorem bitsTake_no (L g : Nat) (bs : List Int) (p n : Nat) (w : World) (h : RdRep 117 L g w bs p) (hn : n ≤ 32) (hp : p ≤ 8 * bs.length) (hf : 8 * bs.length < p + n) (hsz : bs.length ≤ 140737488351300) :
    Calls Try.prog 92 #[.pointer (some ⟨g, 0, none⟩), .int .i64 n] w fun e w' => e = .returned (.tuple #[.int .u32 0, .bool false]) ∧ ∃ m, w' = w.drewN m := by
  have HL := Lib.hid (left_any L g bs p w h hp hsz)
  have d0 : decide ((n : Int) < 0) = false := decide_eq_false (by omega)
  have d1 : decide ((32 : Int) < (n : Int)) = false := decide_eq_false (by omega)
  have d2 : decide (8 * (bs.length : Int) - (p : Int) < (n : Int)) = true := decide_eq_true (by omega)
  clear h hn hp hf
  go_enter Try.func92, Try.ntmps92
  go_wp2_with fail
  refine HL.out.mono ?_
  rintro e w1 ⟨rfl, m, rfl⟩
  clear HL
  go_wp2
  go_ret2
  exact ⟨rfl, m, rfl⟩
set_option maxRecDepth 100000 in
set_option maxHeartbeats 4000000 in
theorem bitsTake_yes (L g : Nat) (bs : List Int) (p n : Nat) (w : World) (h : RdRep 117 L g w bs p) (hb : Bytes bs) (hn : n ≤ 32) (hf : p + n ≤ 8 * bs.length) (hsz : bs.length ≤ 140737488351300) :
    Calls Try.prog 92 #[.pointer (some ⟨g, 0, none⟩), .int .i64 n] w fun e w' => e = .returned (.tuple #[.int .u32 (takeN bs p n), .bool true]) ∧ RdRep 117 L g w' bs (p + n) ∧ Chg (fun k => k = g) w w' := by
  have HL := Lib.hid (left_any L g bs p w h (by omega) hsz)
  have d0 : decide ((n : Int) < 0) = false := decide_eq_false (by omega)
  have d1 : decide ((32 : Int) < (n : Int)) = false := decide_eq_false (by omega)
  have d2 : decide (8 * (bs.length : Int) - (p : Int) < (n : Int)) = false := decide_eq_false (by omega)
  have HR := Lib.hid h
  clear h
  go_enter Try.func92, Try.ntmps92
  go_wp2_with fail
  refine HL.out.mono ?_
  rintro e w1 ⟨rfl, m, rfl⟩
  have HR0 : Hid (RdRep 117 L g (w.drewN m) bs (p + 0)) := Lib.hid (HR.out.drewN m)
  have HC0 := Lib.hid ((Chg.refl (fun k => k = g) w).drewN m)
  clear HL d2
  go_wp2
  clear d0 d1
  go_loopw [6, 7] (fun v i wr => ∃ k : Nat, i = .int .i64 k ∧ k ≤ n ∧ v = .int .u32 (takeN bs p k) ∧ RdRep 117 L g wr bs (p + k) ∧ Chg (fun k => k = g) w wr) (fun _ i _ => n - (intOf i).toNat)
  case atStart => exact ⟨0, rfl, Nat.zero_le _, rfl, HR0.out, HC0.out⟩
  case round =>
    clear HR0 HC0
    obtain ⟨k, rfl, hk, rfl, hr, hc⟩ := hrel
    have HC := Lib.hid hc
    by_cases hlt : k < n
    · have d3 : decide ((k : Int) < (n : Int)) = true := decide_eq_true (by omega)
      have HO := Lib.hid (one_any L g bs (p + k) wr hr hb (by omega) hsz)
      have ht := takeN_le bs p k
      have hbt := bitAt_le bs (p + k)
      have hst : takeN bs p (k + 1) = takeN bs p k + bitAt bs (p + k) * 2 ^ k := rfl
      obtain ⟨v, hv⟩ := Int.eq_ofNat_of_zero_le ht.1
      obtain ⟨b, hb2⟩ := Int.eq_ofNat_of_zero_le hbt.1
      rw [hv, two_pow_cast] at ht
      rw [hb2] at hbt
      rw [hv, hb2, two_pow_cast] at hst
      obtain ⟨ho, hlt2⟩ := u32_or_lo v b k (by omega) (by omega) (by omega)
      rw [hv]
      rw [hb2] at HO
      have mk : min k 32 = k := by omega
      have e1 : IntKind.u32.wrap ((b : Int) * 2 ^ k) = ((b * 2 ^ k : Nat) : Int) := by rw [two_pow_cast, ← Int.natCast_mul]; exact IntWalk.u32_in _ (by omega)
      have HST := Lib.hid hst
      clear hr hc hv hb2 hst ht hbt
      obtain ⟨sh, hsh⟩ : ∃ sh, b * 2 ^ k = sh := ⟨_, rfl⟩
      rw [hsh] at e1 ho hlt2
      have HSH := Lib.hid hsh
      clear hsh
      go_wp2_with fail
      refine HO.out.mono ?_
      rintro e w2 ⟨rfl, hr2, hc2⟩
      have HR2 := Lib.hid hr2
      have HC2 := Lib.hid (HC.out.trans hc2 (fun _ _ h => h))
      clear hr2 hc2 HO
      go_wp2
      go_roundw
      case rel => exact ⟨k + 1, by go_num, by omega, by rw [HST.out, ← Int.natCast_mul, HSH.out, ← Int.natCast_add], HR2.out, HC2.out⟩
      case measure => simp [intOf]; omega
    · have d3 : decide ((k : Int) < (n : Int)) = false := decide_eq_false (by omega)
      obtain rfl : k = n := by omega
      have HRk := Lib.hid hr
      clear hr hc
      go_wp2
      go_ret2
      exact ⟨rfl, HRk.out, HC.out⟩
set_option maxRecDepth 100000 in
theorem bitsAlign (L g : Nat) (bs : List Int) (p : Nat) (w : World) (h : RdRep 117 L g w bs p) (hp : p ≤ 8 * bs.length) (hsz : bs.length ≤ 140737488351300) :
    Calls Try.prog 93 #[.pointer (some ⟨g, 0, none⟩)] w fun e w' => e = .returned (.tuple #[]) ∧ RdRep 117 L g w' bs (upto8 p) ∧ Chg (fun k => k = g) w w' := by
  have c1 := h.c1
  have f1 := h.frozen 1
  have HR := Lib.hid (h.set (upto8 p))
  obtain ⟨q, hq⟩ : ∃ q, upto8 p = q := ⟨_, rfl⟩
  have hq' : q = (p + 7) / 8 * 8 := hq.symm
  rw [hq] at HR
  have e1 : IntKind.i64.wrap ((p : Int) + 7) = (p : Int) + 7 := IntWalk.i64_in _ (by omega)
  have e2 : IntKind.i64.wrap (((p : Int) + 7) / 8) = ((p : Int) + 7) / 8 := IntWalk.i64_in _ (by omega)
  have e3 : IntKind.i64.wrap (((p : Int) + 7) / 8 * 8) = (q : Int) := by rw [IntWalk.i64_in _ (by omega)]; omega
  have e4 : ((p : Int) + 7) / 8 * 8 = (q : Int) := by omega
  have hp0 : (0 : Int) ≤ (p : Int) + 7 := by omega
  rw [hq]
  clear h hq hq'
  go_enter Try.func93, Try.ntmps93
  go_wp2
  go_end0
  exact ⟨rfl, HR.out, (Chg.refl (fun k => k = g) w).setCell (a := ⟨g, 1, none⟩) (.inl rfl) _⟩
/-- The reader's four cells. -/
def wkF (G : Nat) (vo : Value) (most : Nat) (er : Int) (i : Nat) : Value := if i = 0 then .pointer (some ⟨G, 0, none⟩) else if i = 1 then vo else if i = 2 then .int .i64 most else .int .i64 er
/-- The document's reader: block R; its bits: block G; what was made: vo; the first error. -/
structure WkAt (L R G : Nat) (bs : List Int) (most : Nat) (w : World) (p : Nat) (vo : Value) (out : List Int) (er : Int) : Prop where
  cel : Cel w R 119 4 (wkF G vo most er)
  rd : RdRep 117 L G w bs p
  own : OwnS w L 5 1 vo out.length (out.map (Value.int .u8))
  hp : p ≤ 8 * bs.length
  low : L ≤ R
  hm : most ≤ 1000000
  hb : Bytes bs
  ob : Bytes out
  hs : bs.length ≤ 140737488351232
  ol : out.length ≤ most
section
variable {L R G most p : Nat} {bs out : List Int} {w w' w1 : World} {vo vo' vo1 : Value} {er : Int}
theorem WkAt.c0 (h : WkAt L R G bs most w p vo out er) : w.cell? ⟨R, 0, none⟩ = some (.pointer (some ⟨G, 0, none⟩)) := h.cel.cell 0 (by decide)
theorem WkAt.c1 (h : WkAt L R G bs most w p vo out er) : w.cell? ⟨R, 1, none⟩ = some vo := h.cel.cell 1 (by decide)
theorem WkAt.c2 (h : WkAt L R G bs most w p vo out er) : w.cell? ⟨R, 2, none⟩ = some (.int .i64 most) := h.cel.cell 2 (by decide)
theorem WkAt.c3 (h : WkAt L R G bs most w p vo out er) : w.cell? ⟨R, 3, none⟩ = some (.int .i64 er) := h.cel.cell 3 (by decide)
theorem WkAt.neR (h : WkAt L R G bs most w p vo out er) : vo.ownBlock ≠ some R := h.own.ne_cel h.cel (by decide)
theorem WkAt.neG (h : WkAt L R G bs most w p vo out er) : vo.ownBlock ≠ some G := by
  obtain ⟨f, hf⟩ := h.rd.cel
  exact h.own.ne_cel hf (by decide)
theorem WkAt.RG (h : WkAt L R G bs most w p vo out er) : R ≠ G := by
  obtain ⟨f, cs, h1, _⟩ := h.rd.cel
  obtain ⟨cs', h2, _⟩ := h.cel
  intro e
  subst e
  rw [h1] at h2
  injection h2 with h2
  injection h2 with _ h3 _
  exact absurd h3 (by decide)
theorem WkAt.lt (h : WkAt L R G bs most w p vo out er) : ∀ k, FiP R G vo k → L ≤ k ∧ k < w.heap.size := by
  rintro k (rfl | rfl | hk)
  · exact ⟨h.low, h.cel.blk⟩
  · exact ⟨h.rd.low, h.rd.blk⟩
  · exact h.own.lt k hk
theorem WkAt.far {S : Nat → Prop} (h : WkAt L R G bs most w p vo out er) (hc : Chg S w w') (hS : ∀ k, FiP R G vo k → ¬ S k) (hL : ∀ k, k < L → ¬ S k) : WkAt L R G bs most w' p vo out er :=
  ⟨h.cel.chg hc (hS _ (.inl rfl)), h.rd.chg hc (hS _ (.inr (.inl rfl))) hL, h.own.chg hc (fun k hk => hS k (.inr (.inr hk))), h.hp, h.low, h.hm, h.hb, h.ob, h.hs, h.ol⟩
theorem WkAt.below (h : WkAt L R G bs most w p vo out er) (hb : Below w.heap.size w w') : WkAt L R G bs most w' p vo out er :=
  h.far (S := fun _ => False) (Chg.of_below hb) (fun _ _ h => h) (fun _ _ h => h)
theorem WkAt.drewN (h : WkAt L R G bs most w p vo out er) (n : Nat) : WkAt L R G bs most (w.drewN n) p vo out er := h.below ⟨rfl, rfl, rfl, Nat.le_refl _, fun _ _ => rfl⟩
theorem WkAt.went {q : Nat} (h : WkAt L R G bs most w p vo out er) (hr : RdRep 117 L G w' bs q) (hc : Chg (fun k => k = G) w w') (hq : q ≤ 8 * bs.length) : WkAt L R G bs most w' q vo out er :=
  ⟨h.cel.chg hc h.RG, hr, h.own.chg hc (fun k hk e => h.neG (by rw [← e]; exact hk)), hq, h.low, h.hm, h.hb, h.ob, h.hs, h.ol⟩
/-- The error set. -/
theorem WkAt.setE (h : WkAt L R G bs most w p vo out er) (e : Int) : WkAt L R G bs most (w.setCell ⟨R, 3, none⟩ (.int .i64 e)) p vo out e := by
  have hc : Chg (fun k => k = R) w (w.setCell ⟨R, 3, none⟩ (.int .i64 e)) := (Chg.refl (fun k => k = R) w).setCell (a := ⟨R, 3, none⟩) (.inl rfl) _
  refine ⟨(h.cel.set 3 _).congr (fun i hi => ?_), h.rd.chg hc (fun e => h.RG e.symm) (fun k hk e => by have := h.low; omega), h.own.chg hc (fun k hk e => h.neR (by rw [← e]; exact hk)), h.hp, h.low, h.hm, h.hb, h.ob, h.hs, h.ol⟩
  unfold wkF
  rcases i with _ | _ | _ | _ | i
  · rfl
  · rfl
  · rfl
  · rfl
  · omega
theorem WkAt.belowL (h : WkAt L R G bs most w p vo out er) (hc : Chg (FiP R G vo) w w') : Below L w w' :=
  hc.below (by have := h.low; have := h.cel.blk; omega) (fun k hk hs => by have := (h.lt k hs).1; omega)
end
/-- The first error stays. -/
def fstE (er e : Int) : Int := if er = 0 then e else er
theorem fstE_ne {er e : Int} (h : er ≠ 0) : fstE er e = er := by unfold fstE; rw [if_neg h]
theorem fstE_z (e : Int) : fstE 0 e = e := rfl
/-- What a call leaves. -/
def WkTo (L R G : Nat) (bs : List Int) (most : Nat) (w : World) (vo : Value) (p : Nat) (out : List Int) (er : Int) (w' : World) : Prop :=
  ∃ vo', WkAt L R G bs most w' p vo' out er ∧ Chg (FiP R G vo) w w' ∧ FreshI w vo vo'
theorem WkTo.trans {L R G most p : Nat} {bs out : List Int} {w w1 w2 : World} {vo vo1 : Value} {er : Int} (hC : Chg (FiP R G vo) w w1) (hF : FreshI w vo vo1) (h : WkTo L R G bs most w1 vo1 p out er w2) : WkTo L R G bs most w vo p out er w2 := by
  obtain ⟨vo2, h1, h2, h3⟩ := h
  exact ⟨vo2, h1, FiP.trans hC h2 hF, FreshI.trans hF h3 hC.size⟩
set_option maxRecDepth 100000 in
set_option maxHeartbeats 4000000 in
theorem wFail_any (L R G most p : Nat) (bs out : List Int) (w : World) (vo : Value) (er e : Int) (h : WkAt L R G bs most w p vo out er) :
    Calls Try.prog 78 #[.pointer (some ⟨R, 0, none⟩), .int .i64 e] w fun en w' => en = .returned (.tuple #[]) ∧ WkAt L R G bs most w' p vo out (fstE er e) ∧ Chg (fun k => k = R) w w' := by
  have c3 := h.c3
  have f3 := h.cel.frozen 3
  have HI := Lib.hid h
  clear h
  by_cases he : er = 0
  · subst he
    go_enter Try.func78, Try.ntmps78
    go_wp2
    go_end0
    exact ⟨rfl, HI.out.setE e, (Chg.refl (fun k => k = R) w).setCell (a := ⟨R, 3, none⟩) (.inl rfl) _⟩
  · have d1 : (er == 0) = false := by simpa using he
    go_enter Try.func78, Try.ntmps78
    go_wp2
    go_end0
    exact ⟨rfl, by rw [fstE_ne he]; exact HI.out, Chg.refl _ _⟩
/-- What take leaves. -/
def TkPost (L R G : Nat) (bs : List Int) (most : Nat) (vo : Value) (out : List Int) (er : Int) (p n : Nat) (w : World) (e : Ending) (w' : World) : Prop :=
  ∃ (v : Int) (q : Nat) (er' : Int), e = .returned (.int .i64 v) ∧ 0 ≤ v ∧ v < 2 ^ n ∧ WkAt L R G bs most w' q vo out er' ∧ Chg (FiP R G vo) w w' ∧
    (er ≠ 0 → er' = er) ∧ (er = 0 → ∀ x, tk bs p n = some x → v = x ∧ q = p + n ∧ er' = 0) ∧ (er = 0 → tk bs p n = none → v = 0 ∧ q = p ∧ er' = 4)
set_option maxRecDepth 100000 in
set_option maxHeartbeats 4000000 in
theorem wTake_any (L R G most p n : Nat) (bs out : List Int) (w : World) (vo : Value) (er : Int) (h : WkAt L R G bs most w p vo out er) (hn : n ≤ 16) :
    Calls Try.prog 73 #[.pointer (some ⟨R, 0, none⟩), .int .i64 n] w (TkPost L R G bs most vo out er p n w) := by
  have c0 := h.c0
  have HI := Lib.hid h
  have h2 : ((2 : Int) ^ n) ≤ 65536 := by rw [two_pow_cast]; have := Nat.pow_le_pow_right (n := 2) (by decide) hn; omega
  have h20 : (0 : Int) < 2 ^ n := by rw [two_pow_cast]; have := Nat.pow_pos (n := n) (show 0 < 2 by decide); omega
  rcases tk_some bs p n with ⟨ht, hl⟩ | ⟨ht, hl⟩
  · have HT := Lib.hid (bitsTake_yes L G bs p n w h.rd h.hb (by omega) hl (by have := h.hs; omega))
    have hb := takeN_le bs p n
    generalize takeN bs p n = x at *
    have hu := u32_i64 x ⟨hb.1, by omega⟩
    have HTK := Lib.hid ht
    have HB := Lib.hid hb
    have HL := Lib.hid hl
    clear h ht hb hl h2 h20
    go_enter Try.func73, Try.ntmps73
    go_wp2_with fail
    refine HT.out.mono ?_
    rintro e w1 ⟨rfl, hR, hC⟩
    have HI1 := Lib.hid (HI.out.went hR hC HL.out)
    have HC := Lib.hid hC
    clear hR hC HT
    go_wp2
    go_ret
    refine ⟨x, p + n, er, rfl, HB.out.1, HB.out.2, HI1.out, HC.out.mono (fun k _ e => .inr (.inl e)), fun _ => rfl, fun h0 y hy => ?_, fun h0 hy => ?_⟩
    · rw [HTK.out] at hy; injection hy with hy; exact ⟨hy, rfl, h0⟩
    · rw [HTK.out] at hy; cases hy
  · have HT := Lib.hid (bitsTake_no L G bs p n w h.rd (by omega) h.hp hl (by have := h.hs; omega))
    have HTK := Lib.hid ht
    have c3 : ∀ m, (w.drewN m).cell? ⟨R, 3, none⟩ = some (.int .i64 er) := fun m => h.c3
    have f3 : ∀ m, (w.drewN m).frozen? ⟨R, 3, none⟩ = false := fun m => h.cel.frozen 3
    have HC3 := Lib.hid c3
    have HF3 := Lib.hid f3
    have H20 := Lib.hid h20
    clear h ht hl h2 c3 f3 h20
    by_cases he : er = 0
    · subst he
      go_enter Try.func73, Try.ntmps73
      go_wp2_with fail
      refine HT.out.mono ?_
      rintro e w1 ⟨rfl, m, rfl⟩
      have c3 := HC3.out m
      have f3 := HF3.out m
      have HI1 := Lib.hid ((HI.out.drewN m).setE 4)
      have HC1 := Lib.hid (((Chg.refl (FiP R G vo) w).drewN m).setCell (a := ⟨R, 3, none⟩) (.inl (.inl rfl)) (.int .i64 4))
      clear HT
      go_wp2
      go_ret
      refine ⟨0, p, 4, rfl, by decide, H20.out, HI1.out, HC1.out, fun h => absurd rfl h, ?_, fun _ _ => ⟨rfl, rfl, rfl⟩⟩
      intro _ x hx
      rw [HTK.out] at hx
      cases hx
    · have d1 : (er == 0) = false := by simpa using he
      go_enter Try.func73, Try.ntmps73
      go_wp2_with fail
      refine HT.out.mono ?_
      rintro e w1 ⟨rfl, m, rfl⟩
      have c3 := HC3.out m
      have HI1 := Lib.hid (HI.out.drewN m)
      have HC1 := Lib.hid ((Chg.refl (FiP R G vo) w).drewN m)
      clear HT
      go_wp2
      go_ret
      exact ⟨0, p, er, rfl, by decide, H20.out, HI1.out, HC1.out, fun _ => rfl, fun h => absurd h he, fun h => absurd h he⟩
/-- A row of lengths that lies apart from the reader. -/
structure LenIn (R G : Nat) (vo : Value) (w : World) (A : Option Addr) (xs : List Int) : Prop where
  ints : Ints .i64 w A xs
  far : 0 < xs.length → ∀ b o, A = some ⟨b, o, none⟩ → ¬ FiP R G vo b
  hb : cntB xs = true
  hc : costs xs ≤ 32768
  hn : xs.length ≤ 400
section
variable {L R G most p : Nat} {bs out xs : List Int} {w w' w1 : World} {vo vo' : Value} {A : Option Addr}
theorem LenIn.all (h : LenIn R G vo w A xs) : ∀ i, i < xs.length → 0 ≤ xs.getD i 0 ∧ xs.getD i 0 ≤ 15 := by
  intro k hk
  have h1 := List.all_eq_true.1 (show xs.all okLen = true from h.hb) (xs.getD k 0) (by rw [List.getD_eq_getElem?_getD, List.getElem?_eq_getElem hk]; exact List.getElem_mem hk)
  simpa [okLen] using h1
theorem LenIn.chg (h : LenIn R G vo w A xs) (hc : Chg (FiP R G vo) w w') : LenIn R G vo w' A xs := by
  refine ⟨?_, h.far, h.hb, h.hc, h.hn⟩
  by_cases hl : 0 < xs.length
  · exact h.ints.chg hc (fun b o e => h.far hl b o e)
  · exact fun h => absurd h hl
theorem LenIn.fresh (h : LenIn R G vo w A xs) (hF : FreshI w vo vo') : LenIn R G vo' w A xs := by
  refine ⟨h.ints, fun hl b o e hf => ?_, h.hb, h.hc, h.hn⟩
  rcases hf with hf | hf | hf
  · exact h.far hl b o e (.inl hf)
  · exact h.far hl b o e (.inr (.inl hf))
  · rcases hF with hF | hF
    · exact h.far hl b o e (.inr (.inr (by rw [← hF]; exact hf)))
    · have h1 := hF b hf
      obtain ⟨b', o', e', hlt, _⟩ := h.ints hl
      rw [e] at e'
      injection e' with e'
      injection e' with e1 _ _
      omega
end
/-- A symbol read. -/
def WsPost (L R G : Nat) (xs bs : List Int) (most : Nat) (vo : Value) (out : List Int) (p : Nat) (w : World) (e : Ending) (w' : World) : Prop :=
  e = .returned (.int .i64 (rd xs bs 15 0 p).1) ∧ WkAt L R G bs most w' (rd xs bs 15 0 p).2.2 vo out (rd xs bs 15 0 p).2.1 ∧ Chg (FiP R G vo) w w'
set_option maxRecDepth 100000 in
set_option maxHeartbeats 4000000 in
theorem wSym_ok (L R G most p c : Nat) (A : Option Addr) (bs out xs : List Int) (w : World) (vo : Value) (h : WkAt L R G bs most w p vo out 0) (hx : LenIn R G vo w A xs) :
    Calls Try.prog 95 #[.pointer (some ⟨R, 0, none⟩), .slice A xs.length c] w (WsPost L R G xs bs most vo out p w) := by
  have HR := Lib.hid (refRead_any L G A c xs bs p w hx.ints (fun hl b o e hb => hx.far hl b o e (.inr (.inl hb))) h.rd h.hb hx.hb (by unfold cntN; rw [if_pos (show xs.all okLen = true from hx.hb)]; exact hx.hc) hx.all hx.hn h.hp (by have := h.hs; omega))
  have HP := Lib.hid (rd_place xs bs 15 0 p h.hp)
  have c0 := h.c0
  have c3 := h.c3
  have HI := Lib.hid h
  clear h hx
  go_enter Try.func95, Try.ntmps95
  go_wp2_with fail
  refine HR.out.mono ?_
  rintro e w1 ⟨rfl, hR, hC⟩
  have HI1 := Lib.hid (HI.out.went hR hC HP.out)
  have HC := Lib.hid hC
  clear hR hC HR HP
  obtain ⟨RES, hRES⟩ : ∃ RES, rd xs bs 15 0 p = RES := ⟨_, rfl⟩
  have HRES := Lib.hid hRES
  rw [hRES] at HI1 ⊢
  clear hRES
  obtain ⟨s, er, q⟩ := RES
  simp only at HI1 ⊢
  have HF := Lib.hid (wFail_any L R G most q bs out w1 vo 0 er HI1.out)
  rw [fstE_z] at HF
  go_wp2_with fail
  refine HF.out.mono ?_
  rintro e w2 ⟨rfl, hI2, hC2⟩
  have HI2 := Lib.hid hI2
  have HC2 := Lib.hid ((HC.out.mono (S' := FiP R G vo) (fun k _ e => .inr (.inl e))).trans hC2 (fun k _ e => .inl e))
  clear hI2 hC2 HF
  go_wp2
  go_ret
  unfold WsPost
  rw [HRES.out]
  exact ⟨rfl, HI2.out, HC2.out⟩
set_option maxRecDepth 100000 in
set_option maxHeartbeats 4000000 in
theorem wSym_no (L R G most p : Nat) (bs out : List Int) (w : World) (vo : Value) (er : Int) (x : Value) (h : WkAt L R G bs most w p vo out er) (he : er ≠ 0) :
    Calls Try.prog 95 #[.pointer (some ⟨R, 0, none⟩), x] w fun e w' => e = .returned (.int .i64 0) ∧ w = w' := by
  have c3 := h.c3
  have d1 : (er != 0) = true := by simpa using he
  clear h
  go_enter Try.func95, Try.ntmps95
  go_wp2
  go_ret
  exact ⟨rfl, rfl⟩
set_option maxRecDepth 100000 in
set_option maxHeartbeats 4000000 in
theorem wPut_any (L R G most p : Nat) (bs out : List Int) (w : World) (vo : Value) (c : Int) (h : WkAt L R G bs most w p vo out 0) (hc : 0 ≤ c ∧ c < 256) :
    Calls Try.prog 94 #[.pointer (some ⟨R, 0, none⟩), .int .u8 c] w fun e w' => e = .returned (.tuple #[]) ∧ WkTo L R G bs most w vo p (if most ≤ out.length then out else out ++ [c]) (if most ≤ out.length then 5 else 0) w' := by
  obtain ⟨A, cc, hvo⟩ := h.own.shape
  have c1 := h.c1
  have c2 := h.c2
  rw [hvo] at c1
  have HV := Lib.hid hvo
  have HI := Lib.hid h
  have hm := h.hm
  clear h hvo
  by_cases hl : most ≤ out.length
  · rw [if_pos hl, if_pos hl]
    have d1 : decide ((most : Int) ≤ (out.length : Int)) = true := decide_eq_true (by omega)
    have d2 : decide (most ≤ out.length) = true := decide_eq_true hl
    go_enter Try.func94, Try.ntmps94
    go_wp2
    go_quiet (fail)
    have HF := Lib.hid (wFail_any L R G most p bs out (w.drewN nq) vo 0 5 (HI.out.drewN nq))
    go_wp2_with fail
    refine HF.out.mono ?_
    rintro e w2 ⟨rfl, hI2, hC2⟩
    have HI2 := Lib.hid hI2
    have HC2 := Lib.hid (((Chg.refl (FiP R G vo) w).drewN nq).trans hC2 (fun k _ e => .inl e))
    clear hI2 hC2 HF
    go_wp2
    (try simp only [Exit.inBlock, Exit.then])
    refine bodyPost_ret (results_none rfl _ _ _) rfl ?_
    exact ⟨rfl, vo, HI2.out, HC2.out, .inl rfl⟩
  · rw [if_neg hl, if_neg hl]
    have d1 : decide ((most : Int) ≤ (out.length : Int)) = false := decide_eq_false (by omega)
    have d2 : decide (most ≤ out.length) = false := decide_eq_false hl
    obtain ⟨i0, hi, hz0, hz1, hz2⟩ := info_parts Try.info_u8
    have hmx1 : out.length + 1 ≤ maxLen := by unfold maxLen; omega
    have hmx2 : (out.length + 1) * 1 ≤ 140737488355328 := by omega
    go_enter Try.func94, Try.ntmps94
    go_wp2
    go_quiet (fail)
    have HI2 := Lib.hid (HI.out.drewN nq)
    have k1 := HI2.out.c1
    rw [HV.out] at k1
    have HD := Lib.hid (show Chg (FiP R G vo) w (w.drewN nq) from (Chg.refl _ _).drewN nq)
    clear c1 c2 HI
    generalize w.drewN nq = wA at *
    have hLs : L ≤ (wA.alloc (.cells #[.int .u8 c] 5)).heap.size := by have h1 := HI2.out.low; have h2 := HI2.out.cel.blk; simp; omega
    have hown3 := Lib.hid (by have := HI2.out.own.alloc (.cells #[.int .u8 c] 5); rwa [HV.out] at this : OwnS (wA.alloc (.cells #[.int .u8 c] 5)) L 5 1 (.slice A out.length cc) out.length (out.map (Value.int .u8)))
    have k3 := (HI2.out.cel.alloc (.cells #[.int .u8 c] 5)).cell 1 (by decide)
    have k4 : (wA.alloc (.cells #[.int .u8 c] 5)).cell? ⟨R, 1, none⟩ = some (.slice A out.length cc) := k3.trans (by rw [← HV.out]; rfl)
    clear k3
    go_wp2_with (at_builtin; go_loud (refine wpList_append_S rfl (.tmp 20) (.tmp 22) 22 22 rfl i0 (.int .u8 0) 1 (.slice 5) Try.underlying22 Try.underlying22 (fun _ h => by cases h) hi hz0 hz1 hz2 rfl rfl rfl hown3.out (Src.one_new (u := .int .u8 c) rfl) hmx1 hmx2 hLs ?_; intro A9 c9 w9 ho9 hg9 hw9; have hC9 := (HI2.out.cel.alloc (.cells #[.int .u8 c] 5)).grown hg9 (by have := HI2.out.neR; rw [HV.out] at this; exact this); have y9 := hC9.cell 1 (by decide); have yf := hC9.frozen 1))
    all_goals
      go_wp2
      go_end0
      have hC := ((Chg.refl (FiP R G vo) wA).alloc (.cells #[.int .u8 c] 5)).trans (Chg.of_grown (S := FiP R G vo) hg9 (fun k hk => .inr (.inr (by rw [HV.out]; exact hk)))) (fun _ _ h => h)
      have hC2 := hC.setCell (a := ⟨R, 1, none⟩) (.inl (.inl rfl)) (.slice A9 (out.length + 1) c9)
      have hw9 : (Value.slice A9 (out.length + 1) c9).ownBlock = (Value.slice A out.length cc).ownBlock ∨ (Value.slice A9 (out.length + 1) c9).ownBlock = some (wA.alloc (.cells #[.int .u8 c] 5)).heap.size := hw9
      have ho9' : OwnS w9 L 5 1 (.slice A9 (out.length + 1) c9) (out ++ [c]).length ((out ++ [c]).map (Value.int .u8)) := by
        rw [List.length_append, List.map_append]; exact ho9
      have hRd : RdRep 117 L G w9 bs p := HI2.out.rd.chg (S := fun k => vo.ownBlock = some k) ((Chg.refl _ wA).alloc _ |>.trans (Chg.of_grown hg9 (fun k hk => by rw [HV.out]; exact hk)) (fun _ _ h => h)) (fun e => HI2.out.neG e) (fun k hk e => by have := (HI2.out.own.lt k e).1; omega)
      refine ⟨rfl, .slice A9 (out.length + 1) c9, ⟨?_, ?_, ?_, HI2.out.hp, HI2.out.low, HI2.out.hm, HI2.out.hb, ?_, HI2.out.hs, by rw [List.length_append, List.length_singleton]; omega⟩, HD.out.trans hC2 (fun _ _ h => h), ?_⟩
      · refine (hC9.set 1 _).congr (fun i hi => ?_)
        unfold wkF
        rcases i with _ | _ | _ | _ | i
        · rfl
        · rfl
        · rfl
        · rfl
        · omega
      · exact hRd.chg ((Chg.refl (fun k => k = R) w9).setCell (a := ⟨R, 1, none⟩) (.inl rfl) _) (fun e => HI2.out.RG e.symm) (fun k hk e => by have := HI2.out.low; omega)
      · refine ho9'.setFar (fun e => ?_) _
        rcases hw9 with hw9 | hw9
        · exact HI2.out.neR (by rw [HV.out, ← hw9]; exact e)
        · rw [hw9] at e
          injection e with e
          have h1 := HI2.out.cel.blk
          have h2 : (wA.alloc (.cells #[.int .u8 c] 5)).heap.size = R := e
          simp at h2
          omega
      · intro x hx
        rcases List.mem_append.1 hx with hx | hx
        · exact HI2.out.ob x hx
        · rw [List.mem_singleton] at hx; subst hx; exact hc
      · rcases hw9 with hw9 | hw9
        · exact .inl (by rw [hw9, HV.out])
        · refine .inr fun k hk => ?_
          rw [hw9] at hk
          injection hk with hk
          have h1 := HD.out.size
          subst hk
          simp
          omega
end Go.Proofs.Ytoeipgbnjcgbjaa
/- The document's Inflate: bases, a match, a block of codes. -/
namespace Go.Proofs.Ytoeipgbnjcgbjaa
open Go.RowKit
set_option linter.unusedVariables false

def bitsN (s g st : Nat) : Nat := if s < st then 0 else (s - st) / g + 1
def baseN (first g st : Nat) : Nat → Nat
  | 0 => first
  | s + 1 => baseN first g st s + 2 ^ bitsN s g st
def baseOk (first g st n : Nat) : Bool := (List.range (n + 1)).all fun s => decide (baseN first g st s ≤ 100000) && decide (bitsN s g st ≤ 14)
theorem baseOk_at {first g st n : Nat} (h : baseOk first g st n = true) {s : Nat} (hs : s ≤ n) : baseN first g st s ≤ 100000 ∧ bitsN s g st ≤ 14 := by
  have := List.all_eq_true.1 h s (List.mem_range.2 (by omega))
  simpa using this
set_option maxRecDepth 100000 in
theorem wBits_any (s g st : Nat) (w : World) (hg : 0 < g) (hs : s ≤ 1000 ∧ st ≤ 1000 ∧ g ≤ 1000) : Calls Try.prog 125 #[.int .i64 s, .int .i64 g, .int .i64 st] w fun e w' => e = .returned (.int .i64 (bitsN s g st)) ∧ w = w' := by
  unfold bitsN
  by_cases h : s < st
  · rw [if_pos h]
    have d1 : decide ((s : Int) < (st : Int)) = true := decide_eq_true (by omega)
    go_enter Try.func125, Try.ntmps125
    go_wp2
    go_ret
    exact ⟨rfl, rfl⟩
  · rw [if_neg h]
    have d1 : decide ((s : Int) < (st : Int)) = false := decide_eq_false (by omega)
    obtain ⟨u, hu⟩ : ∃ u, s - st = u := ⟨_, rfl⟩
    rw [hu]
    obtain ⟨q, hq⟩ : ∃ q, u / g = q := ⟨_, rfl⟩
    have hqu : q ≤ u := by rw [← hq]; exact Nat.div_le_self _ _
    have e1 : IntKind.i64.wrap ((s : Int) - (st : Int)) = (u : Int) := by rw [IntWalk.i64_in _ (by omega)]; omega
    have e2 : (u : Int) / (g : Int) = (q : Int) := by rw [← hq]; exact (Int.natCast_ediv u g).symm
    have e3 : IntKind.i64.wrap (q : Int) = (q : Int) := IntWalk.i64_in _ (by omega)
    have e4 : IntKind.i64.wrap ((q : Int) + 1) = ((q + 1 : Nat) : Int) := by rw [IntWalk.i64_in _ (by omega)]; omega
    have e5 : (u : Int).tdiv (g : Int) = (q : Int) := by rw [Int.tdiv_eq_ediv_of_nonneg (by omega)]; exact e2
    have e6 : ¬ (g : Int) = 0 := by omega
    have e7 : ((g : Int) == 0) = false := by simp; omega
    have u0 : (0 : Int) ≤ (u : Int) := by omega
    have g0 : g ≠ 0 := by omega
    rw [hq]
    clear hu hq
    go_enter Try.func125, Try.ntmps125
    go_wp2
    go_ret
    exact ⟨rfl, rfl⟩
set_option maxRecDepth 100000 in
theorem wBase_any (first s g st n : Nat) (w : World) (hg : 0 < g) (hs : s ≤ n ∧ n ≤ 100 ∧ st ≤ 1000 ∧ g ≤ 1000) (hb : baseOk first g st n = true) : Calls Try.prog 114 #[.int .i64 first, .int .i64 s, .int .i64 g, .int .i64 st] w fun e w' => e = .returned (.tuple #[.int .i64 (baseN first g st s), .int .i64 (bitsN s g st)]) ∧ w = w' := by
  have HB := Lib.hid hb
  go_enter Try.func114, Try.ntmps114
  go_wp2
  go_loop [10, 11] (fun v i => ∃ k : Nat, k ≤ s ∧ i = .int .i64 k ∧ v = .int .i64 (baseN first g st k)) (fun _ i => s - (intOf i).toNat)
  case atStart => exact ⟨0, Nat.zero_le _, rfl, rfl⟩
  case round =>
    obtain ⟨k, hk, rfl, rfl⟩ := hrel
    have hbk := baseOk_at HB.out (s := k) (by omega)
    by_cases hlt : k < s
    · have d1 : decide ((k : Int) < (s : Int)) = true := decide_eq_true (by omega)
      have hb2 := baseOk_at HB.out (s := k + 1) (by omega)
      have HS := Lib.hid (show baseN first g st (k + 1) = baseN first g st k + 2 ^ bitsN k g st from rfl)
      have HW := Lib.hid (wBits_any k g st w hg (by omega))
      rw [HS.out] at hb2
      generalize baseN first g st k = v at *
      generalize bitsN k g st = t at *
      obtain ⟨P, hP⟩ : ∃ P, 2 ^ t = P := ⟨_, rfl⟩
      have e1 : (2 : Int) ^ t = (P : Int) := by rw [two_pow_cast, hP]
      have m64 : min t 64 = t := by omega
      rw [hP] at hb2
      have e2 : IntKind.i64.wrap (P : Int) = (P : Int) := IntWalk.i64_in _ (by omega)
      have e3 : IntKind.i64.wrap ((v : Int) + (P : Int)) = ((v + P : Nat) : Int) := by rw [IntWalk.i64_in _ (by omega)]; omega
      have HP := Lib.hid hP
      clear hP
      go_wp2_with fail
      refine HW.out.mono ?_
      rintro e w1 ⟨rfl, rfl⟩
      clear HW
      go_wp2
      go_round
      case rel => exact ⟨k + 1, by omega, by go_num, by rw [HS.out, HP.out, Int.natCast_add]⟩
      case measure => simp [intOf]; omega
    · have d1 : decide ((k : Int) < (s : Int)) = false := decide_eq_false (by omega)
      obtain rfl : k = s := by omega
      have HW := Lib.hid (wBits_any k g st w hg (by omega))
      go_wp2_with fail
      refine HW.out.mono ?_
      rintro e w1 ⟨rfl, rfl⟩
      clear HW
      go_wp2
      go_ret2
      exact ⟨rfl, rfl⟩
theorem len_base (i : Nat) (h : i < 28) : (i < 8 → bitsN i 4 8 = 0 ∧ baseN 3 4 8 i = 3 + i) ∧ (8 ≤ i → bitsN i 4 8 = (i - 4) / 4 ∧ baseN 3 4 8 i = 3 + (4 + (i - 8) % 4) * 2 ^ ((i - 4) / 4)) := by
  have e : ((List.range 28).all fun i => decide ((i < 8 → bitsN i 4 8 = 0 ∧ baseN 3 4 8 i = 3 + i) ∧ (8 ≤ i → bitsN i 4 8 = (i - 4) / 4 ∧ baseN 3 4 8 i = 3 + (4 + (i - 8) % 4) * 2 ^ ((i - 4) / 4)))) = true := by kernel_rfl
  exact of_decide_eq_true (List.all_eq_true.1 e i (List.mem_range.2 h))
theorem dist_base (i : Nat) (h : i < 30) : (i < 4 → bitsN i 2 4 = 0 ∧ baseN 1 2 4 i = 1 + i) ∧ (4 ≤ i → bitsN i 2 4 = (i - 2) / 2 ∧ baseN 1 2 4 i = 1 + (2 + i % 2) * 2 ^ ((i - 2) / 2)) := by
  have e : ((List.range 30).all fun i => decide ((i < 4 → bitsN i 2 4 = 0 ∧ baseN 1 2 4 i = 1 + i) ∧ (4 ≤ i → bitsN i 2 4 = (i - 2) / 2 ∧ baseN 1 2 4 i = 1 + (2 + i % 2) * 2 ^ ((i - 2) / 2)))) = true := by kernel_rfl
  exact of_decide_eq_true (List.all_eq_true.1 e i (List.mem_range.2 h))
theorem tk_zero {bs : List Int} {p : Nat} (hp : p ≤ 8 * bs.length) : tk bs p 0 = some 0 := by unfold tk; rw [if_pos (by omega)]; rfl
theorem lenE_ref {bs : List Int} {p i : Nat} (hp : p ≤ 8 * bs.length) (hi : i < 28) : lenE bs ((257 + i : Nat) : Int) p = (tk bs p (bitsN i 4 8)).map fun m => ((baseN 3 4 8 i : Int) + m, p + bitsN i 4 8) := by
  have hb := len_base i hi
  unfold lenE
  rcases Nat.lt_or_ge i 8 with h | h
  · obtain ⟨h1, h2⟩ := hb.1 h
    rw [if_pos (by omega), h1, h2, tk_zero hp]
    simp only [Option.map_some]
    congr 2
    omega
  · obtain ⟨h1, h2⟩ := hb.2 h
    rw [if_neg (by omega), if_neg (by omega), h1, h2]
    have e1 : ((((257 + i : Nat) : Int) - 261) / 4).toNat = (i - 4) / 4 := by omega
    have e2 : (((257 + i : Nat) : Int) - 265) % 4 = (((i - 8) % 4 : Nat) : Int) := by omega
    rw [e1, e2]
    rfl
theorem distE_ref {bs : List Int} {p i : Nat} (hp : p ≤ 8 * bs.length) (hi : i < 30) : distE bs (i : Int) p = (tk bs p (bitsN i 2 4)).map fun m => ((baseN 1 2 4 i : Int) + m, p + bitsN i 2 4) := by
  have hb := dist_base i hi
  unfold distE
  rcases Nat.lt_or_ge i 4 with h | h
  · obtain ⟨h1, h2⟩ := hb.1 h
    rw [if_pos (by omega), h1, h2, tk_zero hp]
    simp only [Option.map_some]
    congr 2
    omega
  · obtain ⟨h1, h2⟩ := hb.2 h
    rw [if_neg (by omega), h1, h2]
    have e1 : (((i : Int) - 2) / 2).toNat = (i - 2) / 2 := by omega
    have e2 : (i : Int) % 2 = ((i % 2 : Nat) : Int) := by omega
    rw [e1, e2]
    rfl
/-- What a block's reading leaves. -/
def WbPost (L R G : Nat) (bs : List Int) (most : Nat) (vo : Value) (r : Int × Nat × List Int) (w : World) (e : Ending) (w' : World) : Prop :=
  e = .returned (.tuple #[]) ∧ ∃ p' out', WkTo L R G bs most w vo p' out' r.1 w' ∧ (r.1 = 0 → p' = r.2.1 ∧ out' = r.2.2)
theorem wb_mk {L R G : Nat} {bs : List Int} {most : Nat} {vo : Value} {r : Int × Nat × List Int} {w w' : World} {x : Int} {p : Nat} {o : List Int} {y : Nat × List Int} (h : r = (x, y)) (hx : x = 0 → y = (p, o)) (hw : WkTo L R G bs most w vo p o x w') : WbPost L R G bs most vo r w (.returned (.tuple #[])) w' := by
  subst h
  exact ⟨rfl, p, o, hw, fun h => by rw [hx h]; exact ⟨rfl, rfl⟩⟩
/-- The match's loop: between the operations. -/
def JMatW (L R G : Nat) (bs : List Int) (most p : Nat) (vo : Value) (out' : List Int) (er : Int) (w0 : World) : List Value → World → Prop
  | [], w => w = w0
  | _ :: _, w => WkTo L R G bs most w0 vo p out' er w
/-- The match's loop. -/
def WcRel (L R G : Nat) (bs : List Int) (most : Nat) (vo : Value) (p far n : Nat) (RR : Int × Nat × List Int) (w : World) (k : Nat) (w' : World) : Prop :=
  ∃ out1 er, WkTo L R G bs most w vo p out1 er w' ∧ (er = 0 → RR = ((copyB most far (n - k) out1).1, p, (copyB most far (n - k) out1).2) ∧ far ≤ out1.length ∧ 1 ≤ far) ∧ (er ≠ 0 → RR.1 = er)
/-- From the distance on: what a match still does. -/
def tailM (bs : List Int) (most : Nat) (dist : List Int) (n : Nat) (p1 p : Nat) (out : List Int) : Int × Nat × List Int :=
  if (rd dist bs 15 0 p1).2.1 ≠ 0 then ((rd dist bs 15 0 p1).2.1, p1, out)
  else if 30 ≤ (rd dist bs 15 0 p1).1 then (3, p1, out)
  else match distE bs (rd dist bs 15 0 p1).1 (rd dist bs 15 0 p1).2.2 with
    | none => (4, p1, out)
    | some (far, p3) => if (out.length : Int) < far then (3, p3, out) else ((copyB most far.toNat n out).1, p3, (copyB most far.toNat n out).2)
theorem matchM_tail {bs : List Int} {most : Nat} {dist : List Int} {s : Int} {p p1 n : Nat} {out : List Int} (h : lenE bs s p = some ((n : Int), p1)) : matchM bs most dist s p out = tailM bs most dist n p1 p out := by
  unfold matchM tailM
  rw [h]
  simp only [Int.toNat_natCast]
  rfl
theorem matchM_torn {bs : List Int} {most : Nat} {dist : List Int} {s : Int} {p : Nat} {out : List Int} (h : lenE bs s p = none) : matchM bs most dist s p out = (4, p, out) := by
  unfold matchM
  rw [h]
theorem wb_err {L R G : Nat} {bs : List Int} {most : Nat} {vo : Value} {r : Int × Nat × List Int} {w w' : World} {x : Int} {p : Nat} {o : List Int} (h : r.1 = x) (hx : x ≠ 0) (hw : WkTo L R G bs most w vo p o x w') : WbPost L R G bs most vo r w (.returned (.tuple #[])) w' :=
  ⟨rfl, p, o, by rw [h]; exact hw, fun e => absurd (h.symm.trans e) hx⟩
theorem wb_ok {L R G : Nat} {bs : List Int} {most : Nat} {vo : Value} {r : Int × Nat × List Int} {w w' : World} {p : Nat} {o : List Int} (h : r = (0, p, o)) (hw : WkTo L R G bs most w vo p o 0 w') : WbPost L R G bs most vo r w (.returned (.tuple #[])) w' := by
  subst h
  exact ⟨rfl, p, o, hw, fun _ => ⟨rfl, rfl⟩⟩
set_option maxRecDepth 100000 in
set_option maxHeartbeats 16000000 in
theorem wMatch_any (L R G most p c : Nat) (A : Option Addr) (bs out xs : List Int) (w : World) (vo : Value) (i : Nat) (h : WkAt L R G bs most w p vo out 0) (hx : LenIn R G vo w A xs) (hi : i < 29) :
    Calls Try.prog 96 #[.pointer (some ⟨R, 0, none⟩), .int .i64 ((257 + i : Nat) : Int), .slice A xs.length c] w (WbPost L R G bs most vo (matchM bs most xs ((257 + i : Nat) : Int) p out) w) := by
  have hp := h.hp
  obtain ⟨s, hs⟩ : ∃ s, 257 + i = s := ⟨_, rfl⟩
  rw [hs]
  have d0 : decide ((285 : Int) < (s : Int)) = false := decide_eq_false (by omega)
  have e0 : IntKind.i64.wrap ((s : Int) - 257) = (i : Int) := by rw [IntWalk.i64_in _ (by omega)]; omega
  -- the length: its base and its bits
  have HN : Hid (∃ n0 k0 : Nat, k0 ≤ 5 ∧ lenE bs (s : Int) p = (tk bs p k0).map (fun m => ((n0 : Int) + m, p + k0)) ∧ (n0 ≤ 258 ∧ 3 ≤ n0) ∧ (if i = 28 then n0 = 258 ∧ k0 = 0 else n0 = baseN 3 4 8 i ∧ k0 = bitsN i 4 8)) := Lib.hid (by
    by_cases h28 : i = 28
    · refine ⟨258, 0, by decide, ?_, by decide, by rw [if_pos h28]; exact ⟨rfl, rfl⟩⟩
      unfold lenE
      rw [if_neg (by omega), if_pos (by omega), tk_zero hp]
      rfl
    · refine ⟨baseN 3 4 8 i, bitsN i 4 8, ?_, by rw [← hs]; exact lenE_ref hp (by omega), ?_, by rw [if_neg h28]; exact ⟨rfl, rfl⟩⟩
      · have hb := len_base i (by omega)
        rcases Nat.lt_or_ge i 8 with h8 | h8
        · rw [(hb.1 h8).1]; omega
        · rw [(hb.2 h8).1]; omega
      · have e : ((List.range 28).all fun i => decide (baseN 3 4 8 i ≤ 258 ∧ 3 ≤ baseN 3 4 8 i)) = true := by kernel_rfl
        exact of_decide_eq_true (List.all_eq_true.1 e i (List.mem_range.2 (by omega))))
  obtain ⟨n0, k0, hk0, hLE, hn0, hN⟩ := HN.out
  have HLE := Lib.hid hLE
  have HNK := Lib.hid hN
  have HH := Lib.hid h
  have HX := Lib.hid hx
  have HB0 := Lib.hid (wBase_any 3 i 4 8 28 w (by decide) (by omega) (by kernel_rfl))
  have HTOR : Hid (lenE bs (s : Int) p = none → matchM bs most xs (s : Int) p out = (4, p, out)) := Lib.hid matchM_torn
  have HTAIL : Hid (∀ (n p1 : Nat), lenE bs (s : Int) p = some ((n : Int), p1) → matchM bs most xs (s : Int) p out = tailM bs most xs n p1 p out) := Lib.hid fun n p1 h => matchM_tail h
  generalize matchM bs most xs (s : Int) p out = RR at *
  have hsi : s ≤ 285 ∧ (s = 285 ↔ i = 28) := by omega
  clear h hx hN hLE HN
  go_enter Try.func96, Try.ntmps96
  go_wp2_with fail
  refine HB0.out.mono ?_
  rintro e w1 ⟨rfl, rfl⟩
  clear HB0
  go_upto_if 23 with (fail)
  go_cut [6, 7] (fun v6 v7 wx => v6 = .int .i64 n0 ∧ v7 = .int .i64 k0 ∧ wx = w)
  case first =>
    by_cases h28 : i = 28
    · have d1 : ((s : Int) == 285) = true := by simp; omega
      have hnk := HNK.out
      rw [if_pos h28] at hnk
      obtain ⟨rfl, rfl⟩ := hnk
      clear h28
      go_wp2
      go_meet
      exact ⟨rfl, rfl, rfl⟩
    · have d1 : ((s : Int) == 285) = false := by simp; omega
      have hnk := HNK.out
      rw [if_neg h28] at hnk
      obtain ⟨rfl, rfl⟩ := hnk
      clear h28
      go_wp2
      go_meet
      exact ⟨rfl, rfl, rfl⟩
  case rest =>
    obtain ⟨rfl, rfl, rfl⟩ := hcut
    have HT := Lib.hid (wTake_any L R G most p k0 bs out wc vo 0 HH.out (by omega))
    clear d0 e0 HNK
    go_wp2_with fail
    refine HT.out.mono ?_
    rintro e w2 ⟨m0, p1, er1, rfl, hm00, hm01, hI2, hC2, _, hyes, hno⟩
    have HI2 := Lib.hid hI2
    have HC2 := Lib.hid hC2
    have HM0 := Lib.hid hm01
    have HY := Lib.hid (hyes rfl)
    have HNO := Lib.hid (hno rfl)
    obtain ⟨m0, rfl⟩ := Int.eq_ofNat_of_zero_le hm00
    have hp5 : (2 : Int) ^ k0 ≤ 32 := by rw [two_pow_cast]; have := Nat.pow_le_pow_right (n := 2) (by decide) hk0; omega
    have hm32 : m0 < 32 := by omega
    obtain ⟨nn, hnn⟩ : ∃ nn, n0 + m0 = nn := ⟨_, rfl⟩
    have e1 : IntKind.i64.wrap ((n0 : Int) + (m0 : Int)) = (nn : Int) := by rw [IntWalk.i64_in _ (by omega)]; omega
    have hnb : nn ≤ 300 ∧ 3 ≤ nn := by omega
    have HNN := Lib.hid hnn
    clear hI2 hC2 hyes hno hm00 hm01 HT hp5 hnn
    cases ht : tk bs p k0 with
    | none =>
      obtain ⟨_, rfl, rfl⟩ := HNO.out ht
      have HM := Lib.hid (HTOR.out (by rw [HLE.out, ht]; rfl))
      have HS := Lib.hid (wSym_no L R G most p1 bs out w2 vo 4 (.slice A xs.length c) HI2.out (by decide))
      have c3 := HI2.out.c3
      clear ht HNO HY HLE
      go_wp2_with fail
      refine HS.out.mono ?_
      rintro e w3 ⟨rfl, rfl⟩
      clear HS
      go_wp2
      (try simp only [Exit.inBlock, Exit.then])
      refine bodyPost_ret (results_none rfl _ _ _) rfl ?_
      exact wb_err (by rw [HM.out]) (by decide) ⟨vo, HI2.out, HC2.out, .inl rfl⟩
    | some m =>
      obtain ⟨hmv, rfl, rfl⟩ := HY.out m ht
      have HM := Lib.hid (HTAIL.out nn (p + k0) (by rw [HLE.out, ht, ← hmv, ← HNN.out]; rfl))
      have HX2 := Lib.hid (HX.out.chg HC2.out)
      have HS := Lib.hid (wSym_ok L R G most (p + k0) c A bs out xs w2 vo HI2.out HX2.out)
      have HQ := Lib.hid (rd_sym xs bs 15 0 (p + k0))
      have HPL := Lib.hid (rd_place xs bs 15 0 (p + k0) HI2.out.hp)
      clear ht HNO HY HLE HM0 hmv
      go_wp2_with fail
      refine HS.out.mono ?_
      rintro e w3 ⟨rfl, hI3, hC3⟩
      have HI3 := Lib.hid hI3
      have HC3 := Lib.hid (HC2.out.trans hC3 (fun _ _ h => h))
      have hq := HQ.out
      have hMM := HM.out
      unfold tailM at hMM
      have HM2 := Lib.hid hMM
      clear hI3 hC3 HS HQ HM hMM HX2
      generalize rd xs bs 15 0 (p + k0) = RES at *
      obtain ⟨t, er, p2⟩ := RES
      simp only at HM2 hq HI3 HPL ⊢
      have c3 := HI3.out.c3
      by_cases her : er = 0
      · subst her
        have HM3 := Lib.hid (HM2.out.trans (if_neg (by decide)))
        clear HM2
        obtain ⟨t, rfl⟩ := Int.eq_ofNat_of_zero_le hq.1
        by_cases ht30 : 30 ≤ t
        · have d2 : decide ((29 : Int) < (t : Int)) = true := decide_eq_true (by omega)
          have HM4 := Lib.hid (HM3.out.trans (if_pos (by omega)))
          have HF := Lib.hid (wFail_any L R G most p2 bs out w3 vo 0 3 HI3.out)
          rw [fstE_z] at HF
          clear HM3
          go_wp2_with fail
          refine HF.out.mono ?_
          rintro e w4 ⟨rfl, hI4, hC4⟩
          have HI4 := Lib.hid hI4
          have HC4 := Lib.hid (HC3.out.trans hC4 (fun k _ e => .inl e))
          clear hI4 hC4 HF
          go_wp2
          (try simp only [Exit.inBlock, Exit.then])
          refine bodyPost_ret (results_none rfl _ _ _) rfl ?_
          exact wb_err (by rw [HM4.out]) (by decide) ⟨vo, HI4.out, HC4.out, .inl rfl⟩
        · have d2 : decide ((29 : Int) < (t : Int)) = false := decide_eq_false (by omega)
          have HM4 := Lib.hid (HM3.out.trans (if_neg (by omega)))
          have HB1 := Lib.hid (wBase_any 1 t 2 4 30 w3 (by decide) (by omega) (by kernel_rfl))
          have hbt := baseOk_at (first := 1) (g := 2) (st := 4) (n := 30) (by kernel_rfl) (s := t) (by omega)
          have HDE := Lib.hid (distE_ref (p := p2) HPL.out (show t < 30 by omega))
          clear HM3
          go_wp2_with fail
          refine HB1.out.mono ?_
          rintro e w4 ⟨rfl, rfl⟩
          clear HB1
          have HF1 := Lib.hid (show 1 ≤ baseN 1 2 4 t by have hb := dist_base t (by omega); rcases Nat.lt_or_ge t 4 with h8 | h8; rw [(hb.1 h8).2]; omega; rw [(hb.2 h8).2]; omega)
          generalize baseN 1 2 4 t = f0 at *
          generalize bitsN t 2 4 = k1 at *
          have HT := Lib.hid (wTake_any L R G most p2 k1 bs out w3 vo 0 HI3.out (by omega))
          go_wp2_with fail
          refine HT.out.mono ?_
          rintro e w5 ⟨m1, p3, er3, rfl, hm00, hm01, hI5, hC5, _, hyes, hno⟩
          have HI5 := Lib.hid hI5
          have HC5 := Lib.hid (HC3.out.trans hC5 (fun _ _ h => h))
          have HY := Lib.hid (hyes rfl)
          have HNO := Lib.hid (hno rfl)
          obtain ⟨m1, rfl⟩ := Int.eq_ofNat_of_zero_le hm00
          have hp5 : (2 : Int) ^ k1 ≤ 16384 := by rw [two_pow_cast]; have := Nat.pow_le_pow_right (n := 2) (by decide) hbt.2; omega
          have hm32 : m1 < 16384 := by omega
          obtain ⟨far, hfar⟩ : ∃ far, f0 + m1 = far := ⟨_, rfl⟩
          have e2 : IntKind.i64.wrap ((f0 : Int) + (m1 : Int)) = (far : Int) := by rw [IntWalk.i64_in _ (by omega)]; omega
          have hfb : far ≤ 200000 := by omega
          have HFAR := Lib.hid hfar
          have c3 := HI5.out.c3
          clear hI5 hC5 hyes hno hm00 hm01 HT hp5 hfar
          cases ht2 : tk bs p2 k1 with
          | none =>
            obtain ⟨_, rfl, rfl⟩ := HNO.out ht2
            have HM5 : Hid (RR = (4, p + k0, out)) := Lib.hid (HM4.out.trans (by rw [HDE.out, ht2]; rfl))
            clear ht2 HNO HY HDE HM4 d2 e1
            go_wp2
            have d4 : decide ((0 : Int) < (nn : Int)) = true := decide_eq_true (by omega)
            go_loopw [11] (fun i wr => i = .int .i64 0 ∧ wr = w5) (fun i _ => nn - (intOf i).toNat)
            case atStart => exact ⟨rfl, rfl⟩
            case round =>
              obtain ⟨rfl, rfl⟩ := hrel
              go_wp2
              go_end0
              exact wb_err (by rw [HM5.out]) (by decide) ⟨vo, HI5.out, HC5.out, .inl rfl⟩
          | some m =>
            obtain ⟨hmv, rfl, rfl⟩ := HY.out m ht2
            have HM5 : Hid (RR = if (out.length : Int) < (far : Int) then (3, p2 + k1, out) else ((copyB most far nn out).1, p2 + k1, (copyB most far nn out).2)) := Lib.hid (HM4.out.trans (by rw [HDE.out, ht2, ← hmv]; simp only [Option.map_some]; rw [show (f0 : Int) + (m1 : Int) = (far : Int) by have := HFAR.out; omega, Int.toNat_natCast]))
            have hf1 : 1 ≤ far := by have := HF1.out; have := HFAR.out; omega
            have hvo5 := HI5.out.own.shape
            obtain ⟨A5, c5, hvo5⟩ := hvo5
            have k5 := HI5.out.c1
            rw [hvo5] at k5
            clear ht2 HNO HY HDE HM4 hmv hvo5
            by_cases hfl : out.length < far
            · have d3 : decide ((out.length : Int) < (far : Int)) = true := decide_eq_true (by omega)
              have HM6 := Lib.hid (HM5.out.trans (if_pos (by omega)))
              have HF := Lib.hid (wFail_any L R G most (p2 + k1) bs out w5 vo 0 3 HI5.out)
              rw [fstE_z] at HF
              clear HM5
              go_wp2_with fail
              refine HF.out.mono ?_
              rintro e w6 ⟨rfl, hI6, hC6⟩
              have HI6 := Lib.hid hI6
              have HC6 := Lib.hid (HC5.out.trans hC6 (fun k _ e => .inl e))
              have c3 := hI6.c3
              clear hI6 hC6 HF d2 d3 e1 e2
              go_wp2
              have d4 : decide ((0 : Int) < (nn : Int)) = true := decide_eq_true (by omega)
              go_loopw [11] (fun i wr => i = .int .i64 0 ∧ wr = w6) (fun i _ => nn - (intOf i).toNat)
              case atStart => exact ⟨rfl, rfl⟩
              case round =>
                obtain ⟨rfl, rfl⟩ := hrel
                go_wp2
                go_end0
                exact wb_err (by rw [HM6.out]) (by decide) ⟨vo, HI6.out, HC6.out, .inl rfl⟩
            · have d3 : decide ((out.length : Int) < (far : Int)) = false := decide_eq_false (by omega)
              have HM6 := Lib.hid (HM5.out.trans (if_neg (by omega)))
              clear HM5
              obtain ⟨p3, hp3⟩ : ∃ p3, p2 + k1 = p3 := ⟨_, rfl⟩
              rw [hp3] at HM6 HI5
              have HR0 : Hid (WcRel L R G bs most vo p3 far nn RR wc 0 w5) := Lib.hid ⟨out, 0, ⟨vo, HI5.out, HC5.out, .inl rfl⟩, fun _ => ⟨HM6.out, by omega, hf1⟩, fun h => absurd rfl h⟩
              clear HM6 hp3
              go_wp2
              clear HI5 HC5 HI3 HC3 HI2 HC2 hq d2 d3 e1 e2 hfl
              go_loopw [11] (fun i wr => ∃ k : Nat, i = .int .i64 k ∧ k ≤ nn ∧ WcRel L R G bs most vo p3 far nn RR wc k wr) (fun i _ => nn - (intOf i).toNat)
              case atStart => exact ⟨0, rfl, Nat.zero_le _, HR0.out⟩
              case round =>
                clear HR0
                obtain ⟨k, rfl, hk, out1, er9, ⟨vo1, hI4, hC4, hF4⟩, hok, hbad⟩ := hrel
                have HI4 := Lib.hid hI4
                have HC4 := Lib.hid hC4
                have HF4 := Lib.hid hF4
                have c3 := hI4.c3
                by_cases hlt : k < nn
                · have d4 : decide ((k : Int) < (nn : Int)) = true := decide_eq_true (by omega)
                  by_cases he9 : er9 = 0
                  · subst he9
                    obtain ⟨hcp, hf1, hf2⟩ := hok rfl
                    have HCP := Lib.hid (hcp.trans (show _ = if most ≤ out1.length then ((5 : Int), p3, out1) else ((copyB most far (nn - (k + 1)) (out1 ++ [out1.getD (out1.length - far) 0])).1, p3, (copyB most far (nn - (k + 1)) (out1 ++ [out1.getD (out1.length - far) 0])).2) by rw [show nn - k = (nn - (k + 1)) + 1 by omega, copyB]; split <;> rfl))
                    have hsrc := hI4.own
                    obtain ⟨A4, c4, hvo4⟩ := hI4.own.shape
                    have k1 := hI4.c1
                    rw [hvo4] at k1 hsrc
                    have hcap := hsrc.cap
                    obtain ⟨b4, o4, rfl, hb4, hcell⟩ := hsrc.ints (by omega)
                    have kx := hcell (out1.length - far) (by omega)
                    have hx4 := getD_byte hI4.ob (out1.length - far)
                    have hol := hI4.ol
                    have hmo := hI4.hm
                    obtain ⟨dd, hdd⟩ : ∃ dd, out1.length - far = dd := ⟨_, rfl⟩
                    rw [hdd] at kx hx4 HCP
                    have e5 : IntKind.i64.wrap ((out1.length : Int) - (far : Int)) = (dd : Int) := by rw [IntWalk.i64_in _ (by omega)]; omega
                    have e6 : (out1.length : Int) - (far : Int) = (dd : Int) := by omega
                    have s1 : (0 : Int) ≤ (dd : Int) := by omega
                    have s2 : (dd : Int) < (out1.length : Int) := by omega
                    have s3 : dd < out1.length := by omega
                    generalize out1.getD dd 0 = x at *
                    clear hI4 hC4 hF4 hcp hok hbad hsrc hcell e6
                    go_wp2
                    refine wp_region_ph (by kernel_rfl) [14] [.span 0 0, .span 0 0, .span 0 0, .span 0 0, .span 0 0, .span 0 0, .span 0 0, .span 0 0, .span 0 0, .span 0 0, .span 0 0, .span 0 0, .span 0 0, .span 0 0, .phase 0] [fun z9 => z9 = .pointer (some ⟨R, 0, none⟩), fun z9 => z9 = .pointer (some ⟨R, 0, none⟩), fun z9 => z9 = .pointer (some ⟨R, 0, none⟩), fun z9 => z9 = .pointer (some ⟨R, 1, none⟩), fun z9 => z9 = .slice (some ⟨b4, o4, none⟩) out1.length c4, fun z9 => z9 = .pointer (some ⟨R, 0, none⟩), fun z9 => z9 = .pointer (some ⟨R, 0, none⟩), fun z9 => z9 = .pointer (some ⟨R, 1, none⟩), fun z9 => z9 = .slice (some ⟨b4, o4, none⟩) out1.length c4, fun z9 => z9 = .int .i64 out1.length, fun z9 => z9 = .int .i64 far, fun z9 => z9 = .int .i64 dd, fun z9 => z9 = .pointer (some ⟨b4, o4 + dd, none⟩), fun z9 => z9 = .int .u8 x, fun z9 => z9 = .tuple #[]] (JMatW L R G bs most p3 vo1 (if most ≤ out1.length then out1 else out1 ++ [x]) (if most ≤ out1.length then 5 else 0) wr.drew) (by kernel_rfl) (by kernel_rfl) (by kernel_rfl) (by kernel_rfl) (by kernel_rfl) (by kernel_rfl) rfl rfl (rfl) ?steps ?done
                    case steps =>
                      refine ⟨?_, ?_, ?_, ?_, ?_, ?_, ?_, ?_, ?_, ?_, ?_, ?_, ?_, ?_, ?_, trivial⟩
                      · intro us au w1 k0 hlo hhi ha hd hst hI
                        obtain rfl : k0 = 0 := by omega
                        have q0 := slot_far (t := 0) (v := .pointer (some ⟨R, 0, none⟩)) ha (by kernel_rfl) (by kernel_rfl)
                        have p0 := slot_norm q0
                        clear ha hd hst
                        exact StepI.pure (v := .pointer (some ⟨R, 0, none⟩)) rfl rfl (by go_simp) ⟨rfl, hI⟩
                      · intro us au w1 k1 hlo hhi ha hd hst hI
                        obtain rfl : k1 = 0 := by omega
                        have q0 := slot_far (t := 0) (v := .pointer (some ⟨R, 0, none⟩)) ha (by kernel_rfl) (by kernel_rfl)
                        have p0 := slot_norm q0
                        clear ha hd hst
                        exact StepI.pure (v := .pointer (some ⟨R, 0, none⟩)) rfl rfl (by go_simp) ⟨rfl, hI⟩
                      · intro us au w1 k2 hlo hhi ha hd hst hI
                        obtain rfl : k2 = 0 := by omega
                        have e1 := hd 1 _ (by kernel_rfl) rfl
                        have q80 := slot_at (t := 80) 1 ha (by kernel_rfl) (by kernel_rfl) (by kernel_rfl) e1
                        have p80 := slot_norm q80
                        clear ha hd hst
                        exact StepI.pure (v := .pointer (some ⟨R, 0, none⟩)) rfl rfl (by go_simp) ⟨rfl, hI⟩
                      · intro us au w1 k3 hlo hhi ha hd hst hI
                        obtain rfl : k3 = 0 := by omega
                        have e2 := hd 2 _ (by kernel_rfl) rfl
                        have q81 := slot_at (t := 81) 2 ha (by kernel_rfl) (by kernel_rfl) (by kernel_rfl) e2
                        have p81 := slot_norm q81
                        clear ha hd hst
                        exact StepI.pure (v := .pointer (some ⟨R, 1, none⟩)) rfl rfl (by go_simp) ⟨rfl, hI⟩
                      · intro us au w1 k4 hlo hhi ha hd hst hI
                        obtain rfl : k4 = 0 := by omega
                        have e3 := hd 3 _ (by kernel_rfl) rfl
                        have q82 := slot_at (t := 82) 3 ha (by kernel_rfl) (by kernel_rfl) (by kernel_rfl) e3
                        have p82 := slot_norm q82
                        clear ha hd hst
                        have cl : w1.cell? ⟨R, 1, none⟩ = some (.slice (some ⟨b4, o4, none⟩) out1.length c4) := by rw [show w1 = _ from hI]; exact k1
                        exact StepI.pure (v := .slice (some ⟨b4, o4, none⟩) out1.length c4) rfl rfl (by go_simp) ⟨rfl, hI⟩
                      · intro us au w1 k5 hlo hhi ha hd hst hI
                        obtain rfl : k5 = 0 := by omega
                        have q0 := slot_far (t := 0) (v := .pointer (some ⟨R, 0, none⟩)) ha (by kernel_rfl) (by kernel_rfl)
                        have p0 := slot_norm q0
                        clear ha hd hst
                        exact StepI.pure (v := .pointer (some ⟨R, 0, none⟩)) rfl rfl (by go_simp) ⟨rfl, hI⟩
                      · intro us au w1 k6 hlo hhi ha hd hst hI
                        obtain rfl : k6 = 0 := by omega
                        have e5 := hd 5 _ (by kernel_rfl) rfl
                        have q84 := slot_at (t := 84) 5 ha (by kernel_rfl) (by kernel_rfl) (by kernel_rfl) e5
                        have p84 := slot_norm q84
                        clear ha hd hst
                        exact StepI.pure (v := .pointer (some ⟨R, 0, none⟩)) rfl rfl (by go_simp) ⟨rfl, hI⟩
                      · intro us au w1 k7 hlo hhi ha hd hst hI
                        obtain rfl : k7 = 0 := by omega
                        have e6 := hd 6 _ (by kernel_rfl) rfl
                        have q85 := slot_at (t := 85) 6 ha (by kernel_rfl) (by kernel_rfl) (by kernel_rfl) e6
                        have p85 := slot_norm q85
                        clear ha hd hst
                        exact StepI.pure (v := .pointer (some ⟨R, 1, none⟩)) rfl rfl (by go_simp) ⟨rfl, hI⟩
                      · intro us au w1 k8 hlo hhi ha hd hst hI
                        obtain rfl : k8 = 0 := by omega
                        have e7 := hd 7 _ (by kernel_rfl) rfl
                        have q86 := slot_at (t := 86) 7 ha (by kernel_rfl) (by kernel_rfl) (by kernel_rfl) e7
                        have p86 := slot_norm q86
                        clear ha hd hst
                        have cl : w1.cell? ⟨R, 1, none⟩ = some (.slice (some ⟨b4, o4, none⟩) out1.length c4) := by rw [show w1 = _ from hI]; exact k1
                        exact StepI.pure (v := .slice (some ⟨b4, o4, none⟩) out1.length c4) rfl rfl (by go_simp) ⟨rfl, hI⟩
                      · intro us au w1 k9 hlo hhi ha hd hst hI
                        obtain rfl : k9 = 0 := by omega
                        have e8 := hd 8 _ (by kernel_rfl) rfl
                        have q87 := slot_at (t := 87) 8 ha (by kernel_rfl) (by kernel_rfl) (by kernel_rfl) e8
                        have p87 := slot_norm q87
                        clear ha hd hst
                        exact StepI.pure (v := .int .i64 out1.length) rfl rfl (by go_simp) ⟨rfl, hI⟩
                      · intro us au w1 k10 hlo hhi ha hd hst hI
                        obtain rfl : k10 = 0 := by omega
                        have q9 := slot_far (t := 9) (v := .int .i64 far) ha (by kernel_rfl) (by kernel_rfl)
                        have p9 := slot_norm q9
                        clear ha hd hst
                        exact StepI.pure (v := .int .i64 far) rfl rfl (by go_simp) ⟨rfl, hI⟩
                      · intro us au w1 k11 hlo hhi ha hd hst hI
                        obtain rfl : k11 = 0 := by omega
                        have e9 := hd 9 _ (by kernel_rfl) rfl
                        have e10 := hd 10 _ (by kernel_rfl) rfl
                        have q88 := slot_at (t := 88) 9 ha (by kernel_rfl) (by kernel_rfl) (by kernel_rfl) e9
                        have p88 := slot_norm q88
                        have q89 := slot_at (t := 89) 10 ha (by kernel_rfl) (by kernel_rfl) (by kernel_rfl) e10
                        have p89 := slot_norm q89
                        clear ha hd hst
                        exact StepI.pure (v := .int .i64 dd) rfl rfl (by go_simp) ⟨rfl, hI⟩
                      · intro us au w1 k12 hlo hhi ha hd hst hI
                        obtain rfl : k12 = 0 := by omega
                        have e4 := hd 4 _ (by kernel_rfl) rfl
                        have e11 := hd 11 _ (by kernel_rfl) rfl
                        have q83 := slot_at (t := 83) 4 ha (by kernel_rfl) (by kernel_rfl) (by kernel_rfl) e4
                        have p83 := slot_norm q83
                        have q90 := slot_at (t := 90) 11 ha (by kernel_rfl) (by kernel_rfl) (by kernel_rfl) e11
                        have p90 := slot_norm q90
                        clear ha hd hst
                        exact StepI.pure (v := .pointer (some ⟨b4, o4 + dd, none⟩)) rfl rfl (by go_simp) ⟨rfl, hI⟩
                      · intro us au w1 k13 hlo hhi ha hd hst hI
                        obtain rfl : k13 = 0 := by omega
                        have e12 := hd 12 _ (by kernel_rfl) rfl
                        have q91 := slot_at (t := 91) 12 ha (by kernel_rfl) (by kernel_rfl) (by kernel_rfl) e12
                        have p91 := slot_norm q91
                        clear ha hd hst
                        have cl : w1.cell? ⟨b4, o4 + dd, none⟩ = some (.int .u8 x) := by rw [show w1 = _ from hI]; exact kx
                        exact StepI.pure (v := .int .u8 x) rfl rfl (by go_simp) ⟨rfl, hI⟩
                      · intro us au w1 ha hd hst hI
                        have e0 := hd 0 _ (by kernel_rfl) rfl
                        have e13 := hd 13 _ (by kernel_rfl) rfl
                        have q79 := slot_at (t := 79) 0 ha (by kernel_rfl) (by kernel_rfl) (by kernel_rfl) e0
                        have p79 := slot_norm q79
                        have q92 := slot_at (t := 92) 13 ha (by kernel_rfl) (by kernel_rfl) (by kernel_rfl) e13
                        have p92 := slot_norm q92
                        clear ha hd hst
                        have hw1 : w1 = wr.drew := hI
                        subst hw1
                        refine StepI.call (f := 94) (args := #[.pointer (some ⟨R, 0, none⟩), .int .u8 x]) rfl rfl (by go_simp) ?_
                        refine (wPut_any L R G most p3 bs out1 wr.drew vo1 x (HI4.out.drewN 1) hx4).mono ?_
                        rintro e w5 ⟨rfl, hto⟩
                        exact ⟨_, rfl, rfl, hto⟩
                    case done =>
                      intro us w1 hI hd
                      obtain ⟨vo5, hI5, hC5, hF5⟩ := hI
                      have HC5 := Lib.hid (FiP.trans HC4.out (((Chg.refl _ wr).drew).trans hC5 (fun _ _ h => h)) HF4.out)
                      have HF5 := Lib.hid (FreshI.trans HF4.out hF5 HC4.out.size)
                      have HI5 := Lib.hid hI5
                      clear hd d4 hI5 hC5 hF5 k1 kx
                      simp only [putAll]
                      go_simp
                      by_cases hm : most ≤ out1.length
                      · rw [if_pos hm, if_pos hm] at HI5
                        have HM5 := Lib.hid (HCP.out.trans (if_pos hm))
                        clear HCP
                        go_wp2
                        go_roundw
                        case rel => exact ⟨k + 1, by go_num, by omega, out1, 5, ⟨vo5, HI5.out, HC5.out, HF5.out⟩, fun h => absurd h (by decide), fun _ => by rw [HM5.out]⟩
                        case measure => simp [intOf]; omega
                      · rw [if_neg hm, if_neg hm] at HI5
                        have HM5 := Lib.hid (HCP.out.trans (if_neg hm))
                        clear HCP
                        go_wp2
                        go_roundw
                        case rel => exact ⟨k + 1, by go_num, by omega, _, 0, ⟨vo5, HI5.out, HC5.out, HF5.out⟩, fun _ => ⟨HM5.out, by rw [List.length_append, List.length_singleton]; omega, hf2⟩, fun h => absurd rfl h⟩
                        case measure => simp [intOf]; omega
                  · have d5 : (er9 == 0) = false := by simpa using he9
                    have HB9 := Lib.hid (hbad he9)
                    clear hI4 hC4 hF4 hok hbad
                    go_wp2
                    go_end0
                    exact wb_err HB9.out he9 ⟨vo1, HI4.out, HC4.out, HF4.out⟩
                · have d4 : decide ((k : Int) < (nn : Int)) = false := decide_eq_false (by omega)
                  have HOK := Lib.hid hok
                  have HBAD := Lib.hid hbad
                  clear hI4 hC4 hF4 hok hbad
                  go_wp2
                  go_end0
                  by_cases he9 : er9 = 0
                  · subst he9
                    have h9 := (HOK.out rfl).1
                    rw [show nn - k = 0 by omega] at h9
                    exact wb_ok h9 ⟨vo1, HI4.out, HC4.out, HF4.out⟩
                  · exact wb_err (HBAD.out he9) he9 ⟨vo1, HI4.out, HC4.out, HF4.out⟩
      · have d2 : (er != 0) = true := by simpa using her
        have HM3 := Lib.hid (HM2.out.trans (if_pos her))
        clear HM2
        go_wp2
        (try simp only [Exit.inBlock, Exit.then])
        refine bodyPost_ret (results_none rfl _ _ _) rfl ?_
        exact wb_err (by rw [HM3.out]) her ⟨vo, HI3.out, HC3.out, .inl rfl⟩
end Go.Proofs.Ytoeipgbnjcgbjaa
/- The document's Inflate: a block of codes, a stored block. -/
namespace Go.Proofs.Ytoeipgbnjcgbjaa
open Go.RowKit
set_option linter.unusedVariables false

theorem LenIn.went {R G : Nat} {vo vo' : Value} {w w' : World} {A : Option Addr} {xs : List Int} (h : LenIn R G vo w A xs) (hc : Chg (FiP R G vo) w w') (hF : FreshI w vo vo') : LenIn R G vo' w' A xs :=
  ⟨(h.chg hc).ints, (h.fresh hF).far, h.hb, h.hc, h.hn⟩
def errAt (w : World) (R : Nat) : Nat := match w.cell? ⟨R, 3, none⟩ with
  | some (.int _ e) => if e = 0 then 1 else 0
  | _ => 0
section
variable {L R G most p : Nat} {bs out : List Int} {w w' : World} {vo : Value} {er : Int}
theorem WkAt.lenAt (h : WkAt L R G bs most w p vo out er) : lenAt w R = out.length := by
  unfold Go.Proofs.Ytoeipgbnjcgbjaa.lenAt
  rw [h.c1]
  obtain ⟨A, c, e⟩ := h.own.shape
  rw [e]
theorem WkAt.errAt (h : WkAt L R G bs most w p vo out er) : errAt w R = if er = 0 then 1 else 0 := by
  unfold Go.Proofs.Ytoeipgbnjcgbjaa.errAt
  rw [h.c3]
end
set_option maxRecDepth 100000 in
theorem wMatch_big (L R G most p : Nat) (bs out : List Int) (w : World) (vo : Value) (s : Int) (x : Value) (h : WkAt L R G bs most w p vo out 0) (hs : 286 ≤ s) :
    Calls Try.prog 96 #[.pointer (some ⟨R, 0, none⟩), .int .i64 s, x] w fun e w' => e = .returned (.tuple #[]) ∧ WkAt L R G bs most w' p vo out 3 ∧ Chg (fun k => k = R) w w' := by
  have d0 : decide ((285 : Int) < s) = true := decide_eq_true (by omega)
  have HF := Lib.hid (wFail_any L R G most p bs out w vo 0 3 h)
  rw [fstE_z] at HF
  clear h
  go_enter Try.func96, Try.ntmps96
  go_wp2_with fail
  refine HF.out.mono ?_
  rintro e w1 ⟨rfl, hI, hC⟩
  have HI := Lib.hid hI
  have HC := Lib.hid hC
  clear hI hC HF
  go_wp2
  (try simp only [Exit.inBlock, Exit.then])
  refine bodyPost_ret (results_none rfl _ _ _) rfl ?_
  exact ⟨rfl, HI.out, HC.out⟩
def WdRel (L R G : Nat) (bs : List Int) (most : Nat) (vo : Value) (RR : Int × Nat × List Int) (lit dist : List Int) (w : World) (w' : World) : Prop :=
  ∃ p1 out1 er, WkTo L R G bs most w vo p1 out1 er w' ∧ (er = 0 → ∃ f, RR = codedM bs most lit dist f p1 out1 ∧ most < f + out1.length) ∧ (er ≠ 0 → RR.1 = er)
set_option maxRecDepth 100000 in
set_option maxHeartbeats 8000000 in
theorem wCoded_any (L R G most p F ca cb : Nat) (A B : Option Addr) (bs out lit dist : List Int) (w : World) (vo : Value) (h : WkAt L R G bs most w p vo out 0) (hx1 : LenIn R G vo w A lit) (hx2 : LenIn R G vo w B dist) (hF : most < F) :
    Calls Try.prog 76 #[.pointer (some ⟨R, 0, none⟩), .slice A lit.length ca, .slice B dist.length cb] w (WbPost L R G bs most vo (codedM bs most lit dist F p out) w) := by
  have HR0 : Hid (WdRel L R G bs most vo (codedM bs most lit dist F p out) lit dist w w) := Lib.hid ⟨p, out, 0, ⟨vo, h, Chg.refl _ _, .inl rfl⟩, fun _ => ⟨F, rfl, by omega⟩, fun h => absurd rfl h⟩
  have HX1 := Lib.hid hx1
  have HX2 := Lib.hid hx2
  generalize codedM bs most lit dist F p out = RR at *
  clear h hx1 hx2 hF
  go_enter Try.func76, Try.ntmps76
  go_wp2
  go_loopw [] (fun wr => WdRel L R G bs most vo RR lit dist w wr) (fun wr => errAt wr R * (most - lenAt wr R + 1))
  case atStart => exact HR0.out
  case round =>
    clear HR0
    obtain ⟨p1, out1, er1, ⟨vo1, hI1, hC1, hF1⟩, hok, hbad⟩ := hrel
    have HI1 := Lib.hid hI1
    have HC1 := Lib.hid hC1
    have HF1 := Lib.hid hF1
    have c3 := hI1.c3
    have HLE := Lib.hid hI1.lenAt
    have HEE := Lib.hid hI1.errAt
    by_cases he1 : er1 = 0
    · subst he1
      obtain ⟨f, hrr, hf⟩ := hok rfl
      have hol := hI1.ol
      obtain ⟨f', rfl⟩ : ∃ f', f = f' + 1 := ⟨f - 1, by omega⟩
      have HM : Hid (RR = _) := Lib.hid (hrr.trans (by rw [codedM]))
      have HX11 := Lib.hid (HX1.out.went hC1 hF1)
      have HX21 := Lib.hid (HX2.out.went hC1 hF1)
      have HS1 := Lib.hid (wSym_ok L R G most p1 ca A bs out1 lit wr vo1 hI1 HX11.out)
      have HQ1 := Lib.hid (rd_sym lit bs 15 0 p1)
      have hmo := hI1.hm
      have hn := HX11.out.hn
      clear hI1 hC1 hF1 hrr hok hbad
      go_wp2_with fail
      refine HS1.out.mono ?_
      rintro e w2 ⟨rfl, hI2, hC2⟩
      have HI2 := Lib.hid hI2
      have HC2 := Lib.hid (FiP.trans HC1.out hC2 HF1.out)
      have HX22 := Lib.hid (HX21.out.chg hC2)
      have HLE2 := Lib.hid hI2.lenAt
      have HEE2 := Lib.hid hI2.errAt
      have hq := HQ1.out
      clear hI2 hC2 HS1 HQ1 HX11 HX21 c3
      generalize rd lit bs 15 0 p1 = RES at *
      obtain ⟨s, er, p2⟩ := RES
      simp only at HM hq HI2 HEE2 ⊢
      have c3 := HI2.out.c3
      by_cases her : er = 0
      · subst her
        have h30 : ¬ ((0 : Int) ≠ 0) := by decide
        by_cases hs1 : s < 256
        · have d1 : decide (s < 256) = true := decide_eq_true hs1
          have e1 : IntKind.u8.wrap s = s := by rw [IntKind.wrap_u8']; omega
          have HP := Lib.hid (wPut_any L R G most p2 bs out1 w2 vo1 s HI2.out ⟨hq.1, hs1⟩)
          have HM2 : Hid (RR = if most ≤ out1.length then (5, p1, out1) else codedM bs most lit dist f' p2 (out1 ++ [s])) := Lib.hid (HM.out.trans (by simp only [h30, if_false, if_pos hs1]))
          clear HM
          go_wp2_with fail
          refine HP.out.mono ?_
          rintro e w3 ⟨rfl, hP3⟩
          have HP3 := Lib.hid (WkTo.trans HC2.out HF1.out hP3)
          clear hP3
          by_cases hm : most ≤ out1.length
          · have HM3 := Lib.hid (HM2.out.trans (if_pos hm))
            rw [if_pos hm, if_pos hm] at HP3
            clear HM2
            go_wp2
            go_roundw
            case rel => exact ⟨p2, out1, 5, HP3.out, fun h => absurd h (by decide), fun _ => by rw [HM3.out]⟩
            case measure =>
              obtain ⟨vo3, hI3, _⟩ := HP3.out
              rw [hI3.errAt, HEE.out, HLE.out, if_neg (by decide), if_pos (by trivial)]
              omega
          · have HM3 := Lib.hid (HM2.out.trans (if_neg hm))
            rw [if_neg hm, if_neg hm] at HP3
            clear HM2
            go_wp2
            go_roundw
            case rel => exact ⟨p2, _, 0, HP3.out, fun _ => ⟨f', HM3.out, by rw [List.length_append, List.length_singleton]; omega⟩, fun h => absurd rfl h⟩
            case measure =>
              obtain ⟨vo3, hI3, _⟩ := HP3.out
              rw [hI3.lenAt, hI3.errAt, HLE.out, HEE.out, List.length_append, List.length_singleton, if_pos (by trivial), if_pos (by trivial)]
              omega
        · have d1 : decide (s < 256) = false := decide_eq_false hs1
          by_cases hs2 : s = 256
          · subst hs2
            have HM2 : Hid (RR = (0, p2, out1)) := Lib.hid (HM.out.trans (by simp only [h30, if_false, if_neg hs1, if_true]))
            clear HM
            go_wp2
            (try simp only [Exit.inBlock, Exit.then])
            refine bodyPost_ret (results_none rfl _ _ _) rfl ?_
            exact wb_ok HM2.out ⟨vo1, HI2.out, HC2.out, HF1.out⟩
          · have d2 : (s == 256) = false := by simpa using hs2
            by_cases hs3 : 286 ≤ s
            · have HM2 : Hid (RR = (3, p1, out1)) := Lib.hid (HM.out.trans (by simp only [h30, if_false, if_neg hs1, if_neg hs2, if_pos hs3]))
              have HP := Lib.hid (wMatch_big L R G most p2 bs out1 w2 vo1 s (.slice B dist.length cb) HI2.out hs3)
              clear HM
              go_wp2_with fail
              refine HP.out.mono ?_
              rintro e w3 ⟨rfl, hI3, hC3⟩
              have HI3 := Lib.hid hI3
              have HC3 := Lib.hid (FiP.trans HC2.out (hC3.mono (S' := FiP R G vo1) (fun k _ e => .inl e)) HF1.out)
              clear hI3 hC3 HP
              go_wp2
              go_roundw
              case rel => exact ⟨p2, out1, 3, ⟨vo1, HI3.out, HC3.out, HF1.out⟩, fun h => absurd h (by decide), fun _ => by rw [HM2.out]⟩
              case measure =>
                rw [HI3.out.errAt, HEE.out, HLE.out, if_neg (by decide), if_pos (by trivial)]
                omega
            · obtain ⟨i, hi⟩ : ∃ i : Nat, s = ((257 + i : Nat) : Int) := ⟨(s - 257).toNat, by omega⟩
              have HP := Lib.hid (wMatch_any L R G most p2 cb B bs out1 dist w2 vo1 i HI2.out HX22.out (by omega))
              have HMO := Lib.hid (codedM_more bs most dist s p2 out1)
              rw [← hi] at HP
              have HM2 : Hid (RR = if (matchM bs most dist s p2 out1).1 ≠ 0 then matchM bs most dist s p2 out1 else codedM bs most lit dist f' (matchM bs most dist s p2 out1).2.1 (matchM bs most dist s p2 out1).2.2) := Lib.hid (HM.out.trans (by simp only [h30, if_false, if_neg hs1, if_neg hs2, if_neg hs3]))
              clear HM hi
              generalize matchM bs most dist s p2 out1 = M at *
              obtain ⟨em, pm, om⟩ := M
              simp only at HM2 HMO
              go_wp2_with fail
              refine HP.out.mono ?_
              rintro e w3 ⟨rfl, p3, out3, hP3, heq⟩
              simp only at hP3 heq
              have HP3 := Lib.hid (WkTo.trans HC2.out HF1.out hP3)
              clear hP3 HP
              by_cases hem : em = 0
              · subst hem
                obtain ⟨rfl, rfl⟩ := heq rfl
                have HM3 := Lib.hid (HM2.out.trans (if_neg h30))
                have HMO2 := HMO.out rfl ⟨by omega, by omega⟩
                go_wp2
                go_roundw
                case rel => exact ⟨p3, out3, 0, HP3.out, fun _ => ⟨f', HM3.out, by omega⟩, fun h => absurd rfl h⟩
                case measure =>
                  obtain ⟨vo3, hI3, _⟩ := HP3.out
                  have := hI3.ol
                  rw [hI3.lenAt, hI3.errAt, HLE.out, HEE.out, if_pos (by trivial), if_pos (by trivial)]
                  omega
              · have HM3 := Lib.hid (HM2.out.trans (if_pos hem))
                clear heq
                go_wp2
                go_roundw
                case rel => exact ⟨p3, out3, em, HP3.out, fun h => absurd h hem, fun _ => by rw [HM3.out]⟩
                case measure =>
                  obtain ⟨vo3, hI3, _⟩ := HP3.out
                  rw [hI3.errAt, HEE.out, HLE.out, if_neg hem, if_pos (by trivial)]
                  omega
      · have d2 : (er != 0) = true := by simpa using her
        have HM2 : Hid (RR = (er, p1, out1)) := Lib.hid (HM.out.trans (by simp only [ne_eq, her, not_false_eq_true, if_true]))
        clear HM
        go_wp2
        go_roundw
        case rel => exact ⟨p2, out1, er, ⟨vo1, HI2.out, HC2.out, HF1.out⟩, fun h => absurd h her, fun _ => by rw [HM2.out]⟩
        case measure =>
          rw [HEE2.out, HLE.out, HEE.out, if_neg her, if_pos (by trivial)]
          omega
    · have d1 : (er1 == 0) = false := by simpa using he1
      have HB := Lib.hid (hbad he1)
      clear hI1 hC1 hF1 hok hbad
      go_wp2
      go_end0
      exact wb_err HB.out he1 ⟨vo1, HI1.out, HC1.out, HF1.out⟩
end Go.Proofs.Ytoeipgbnjcgbjaa
/- The document's Inflate: a stored block; the fixed codes' lengths. -/
namespace Go.Proofs.Ytoeipgbnjcgbjaa
open Go.RowKit
set_option linter.unusedVariables false

theorem takeN_8 {bs : List Int} (hb : Bytes bs) {p : Nat} (h8 : p % 8 = 0) (hl : p + 8 ≤ 8 * bs.length) : takeN bs p 8 = bs.getD (p / 8) 0 := by
  have h := takeN_more bs hb p 0 8 (by omega) (by omega)
  have hx := getD_byte hb (p / 8)
  simp only [Nat.add_zero, Nat.zero_add] at h
  rw [h, h8]
  simp only [takeN]
  omega
theorem takeN_16 {bs : List Int} (hb : Bytes bs) {p : Nat} (h8 : p % 8 = 0) (hl : p + 16 ≤ 8 * bs.length) : takeN bs p 16 = bs.getD (p / 8) 0 + 256 * bs.getD (p / 8 + 1) 0 := by
  have h := takeN_more bs hb p 8 8 (by omega) (by omega)
  have hx := getD_byte hb (p / 8 + 1)
  rw [takeN_8 hb h8 (by omega), show (p + 8) / 8 = p / 8 + 1 by omega, show (p + 8) % 8 = 0 by omega] at h
  rw [show (16 : Nat) = 8 + 8 from rfl, h]
  omega
theorem and_comp (n m : Nat) (h : n + m = 65535) : n &&& m = 0 := by
  obtain rfl : m = 2 ^ 16 - (n + 1) := by omega
  apply Nat.eq_of_testBit_eq
  intro i
  rw [Nat.testBit_and, Nat.testBit_two_pow_sub_succ (by omega), Nat.zero_testBit]
  cases n.testBit i <;> simp
theorem i64_and_natW (a b : Nat) (ha : a < 9223372036854775808) (hb : b < 9223372036854775808) : bits .and .i64 (a : Int) (b : Int) = ((a &&& b : Nat) : Int) := by
  have key : (BitVec.ofInt 64 (a : Int) &&& BitVec.ofInt 64 (b : Int)).toNat = a &&& b := by
    rw [BitVec.toNat_and, BitVec.toNat_ofInt, BitVec.toNat_ofInt]
    rw [show (((a : Int) % ((2 ^ 64 : Nat) : Int)).toNat) = a by omega, show (((b : Int) % ((2 ^ 64 : Nat) : Int)).toNat) = b by omega]
  show IntKind.i64.wrap ((BitVec.ofInt 64 (a : Int) &&& BitVec.ofInt 64 (b : Int)).toNat : Nat) = _
  rw [key, IntWalk.i64_in _ (by have := Nat.and_le_left (n := a) (m := b); omega)]
def StRel (L R G : Nat) (bs : List Int) (most : Nat) (vo : Value) (RR : Int × Nat × List Int) (n : Nat) (w : World) (k : Nat) (w' : World) : Prop :=
  ∃ p1 out1 er, WkTo L R G bs most w vo p1 out1 er w' ∧ (er = 0 → RR = rawB bs most (n - k) p1 out1 ∧ p1 % 8 = 0) ∧ (er ≠ 0 → RR.1 = er)
set_option maxRecDepth 100000 in
set_option maxHeartbeats 16000000 in
theorem wStored_any (L R G most p : Nat) (bs out : List Int) (w : World) (vo : Value) (h : WkAt L R G bs most w p vo out 0) :
    Calls Try.prog 74 #[.pointer (some ⟨R, 0, none⟩)] w (WbPost L R G bs most vo (storedM bs most p out) w) := by
  have hq := upto8_le p
  have hp := h.hp
  have HAL := Lib.hid (bitsAlign L G bs p w h.rd h.hp (by have := h.hs; omega))
  have c0 := h.c0
  have HH := Lib.hid h
  have HBY := Lib.hid h.hb
  obtain ⟨RR, hRR⟩ : ∃ RR, storedM bs most p out = RR := ⟨_, rfl⟩
  rw [hRR]
  have HRR : Hid (RR = if 8 * bs.length < upto8 p + 32 then (4, upto8 p, out) else if bs.getD (upto8 p / 8) 0 = 255 - bs.getD (upto8 p / 8 + 2) 0 ∧ bs.getD (upto8 p / 8 + 1) 0 = 255 - bs.getD (upto8 p / 8 + 3) 0 then rawB bs most (bs.getD (upto8 p / 8) 0 + 256 * bs.getD (upto8 p / 8 + 1) 0).toNat (upto8 p + 32) out else (3, upto8 p, out)) := Lib.hid (by rw [← hRR]; rfl)
  clear h hRR
  have hql : upto8 p ≤ 8 * bs.length := by unfold upto8; omega
  generalize upto8 p = q at *
  go_enter Try.func74, Try.ntmps74
  go_wp2_with fail
  refine HAL.out.mono ?_
  rintro e w1 ⟨rfl, hr1, hc1⟩
  have HI1 := Lib.hid (HH.out.went hr1 hc1 hql)
  have HC1 := Lib.hid (hc1.mono (S' := FiP R G vo) (fun k _ e => .inr (.inl e)))
  have HT := Lib.hid (wTake_any L R G most q 16 bs out w1 vo 0 HI1.out (by decide))
  clear hr1 hc1 HAL c0
  go_wp2_with fail
  refine HT.out.mono ?_
  rintro e w2 ⟨n0, q2, er2, rfl, hn00, hn01, hI2, hC2, _, hyes2, hno2⟩
  obtain ⟨n0, rfl⟩ := Int.eq_ofNat_of_zero_le hn00
  have hn16 : n0 < 65536 := by omega
  have HI2 := Lib.hid hI2
  have HC2 := Lib.hid (HC1.out.trans hC2 (fun _ _ h => h))
  have HY2 := Lib.hid (hyes2 rfl)
  have HN2 := Lib.hid (hno2 rfl)
  have HT := Lib.hid (wTake_any L R G most q2 16 bs out w2 vo er2 HI2.out (by decide))
  clear hI2 hC2 hyes2 hno2 hn00 hn01
  go_wp2_with fail
  refine HT.out.mono ?_
  rintro e w3 ⟨m0, q3, er3, rfl, hm00, hm01, hI3, hC3, hne3, hyes3, hno3⟩
  obtain ⟨m0, rfl⟩ := Int.eq_ofNat_of_zero_le hm00
  have hm16 : m0 < 65536 := by omega
  have HI3 := Lib.hid hI3
  have HC3 := Lib.hid (HC2.out.trans hC3 (fun _ _ h => h))
  -- what was read, and whether an error came
  have HALL : Hid ((er3 ≠ 0 → RR.1 = er3) ∧ (er3 = 0 → q3 = q + 32 ∧ RR = if n0 + m0 = 65535 then rawB bs most n0 (q + 32) out else (3, q, out))) := Lib.hid (by
    have hRR := HRR.out
    rcases tk_some bs q 16 with ⟨h1, hl1⟩ | ⟨h1, hl1⟩
    · obtain ⟨hv1, rfl, rfl⟩ := HY2.out _ h1
      rcases tk_some bs (q + 16) 16 with ⟨h2, hl2⟩ | ⟨h2, hl2⟩
      · obtain ⟨hv2, rfl, rfl⟩ := hyes3 rfl _ h2
        refine ⟨fun h => absurd rfl h, fun _ => ⟨by omega, ?_⟩⟩
        rw [takeN_16 HBY.out hq.2.2 hl1] at hv1
        rw [takeN_16 HBY.out (by omega) hl2, show (q + 16) / 8 = q / 8 + 2 by omega, show q / 8 + 2 + 1 = q / 8 + 3 by omega] at hv2
        have x0 := getD_byte HBY.out (q / 8)
        have x1 := getD_byte HBY.out (q / 8 + 1)
        have x2 := getD_byte HBY.out (q / 8 + 2)
        have x3 := getD_byte HBY.out (q / 8 + 3)
        rw [hRR, if_neg (by omega), ← hv1, Int.toNat_natCast]
        by_cases hs : n0 + m0 = 65535
        · rw [if_pos hs, if_pos (by omega)]
        · rw [if_neg hs, if_neg (by omega)]
      · obtain ⟨_, _, rfl⟩ := hno3 rfl h2
        exact ⟨fun _ => by rw [hRR, if_pos (by omega)], fun h => absurd h (by decide)⟩
    · obtain ⟨_, rfl, rfl⟩ := HN2.out h1
      have := hne3 (by decide)
      subst this
      exact ⟨fun _ => by rw [hRR, if_pos (by omega)], fun h => absurd h (by decide)⟩)
  have e1 : IntKind.i64.wrap ((n0 : Int) + (m0 : Int)) = (n0 : Int) + (m0 : Int) := IntWalk.i64_in _ (by omega)
  clear hI3 hC3 hne3 hyes3 hno3 hm00 hm01 HY2 HN2 HT HI2 HC2 HI1 HC1
  have c3 := HI3.out.c3
  by_cases hs : n0 + m0 = 65535
  · have d1 : ((n0 : Int) + (m0 : Int) != 65535) = false := by simp; omega
    have a1 : bits .and .i64 (n0 : Int) (m0 : Int) = 0 := by rw [i64_and_natW _ _ (by omega) (by omega), and_comp n0 m0 hs]; rfl
    go_wp2
    have HR0 : Hid (StRel L R G bs most vo RR n0 w 0 w3) := Lib.hid ⟨q3, out, er3, ⟨vo, HI3.out, HC3.out, .inl rfl⟩, fun he => ⟨by rw [(HALL.out.2 he).2, if_pos hs, (HALL.out.2 he).1]; rfl, by rw [(HALL.out.2 he).1]; omega⟩, fun he => HALL.out.1 he⟩
    clear HALL d1 a1 e1 hs
    go_loopw [4] (fun i wr => ∃ k : Nat, i = .int .i64 k ∧ k ≤ n0 ∧ StRel L R G bs most vo RR n0 w k wr) (fun i _ => n0 - (intOf i).toNat)
    case atStart => exact ⟨0, rfl, Nat.zero_le _, HR0.out⟩
    case round =>
      clear HR0 c3
      obtain ⟨k, rfl, hk, p1, out1, er1, ⟨vo1, hI4, hC4, hF4⟩, hok, hbad⟩ := hrel
      have HI4 := Lib.hid hI4
      have HC4 := Lib.hid hC4
      have HF4 := Lib.hid hF4
      have c3 := hI4.c3
      by_cases hlt : k < n0
      · have d4 : decide ((k : Int) < (n0 : Int)) = true := decide_eq_true (by omega)
        by_cases he : er1 = 0
        · subst he
          obtain ⟨hrr, h8⟩ := hok rfl
          have HM := Lib.hid (hrr.trans (by rw [show n0 - k = (n0 - (k + 1)) + 1 by omega, rawB] : _ = if 8 * bs.length < p1 + 8 then (4, p1, out1) else if most ≤ out1.length then (5, p1, out1) else rawB bs most (n0 - (k + 1)) (p1 + 8) (out1 ++ [bs.getD (p1 / 8) 0])))
          have HT := Lib.hid (wTake_any L R G most p1 8 bs out1 wr vo1 0 HI4.out (by decide))
          clear hI4 hC4 hF4 hok hbad hrr
          go_wp2_with fail
          refine HT.out.mono ?_
          rintro e w5 ⟨v, q5, er5, rfl, hv0, hv1, hI5, hC5, _, hyes5, hno5⟩
          have HI5 := Lib.hid hI5
          have HC5 := Lib.hid (FiP.trans HC4.out hC5 HF4.out)
          have HY5 := Lib.hid (hyes5 rfl)
          have HN5 := Lib.hid (hno5 rfl)
          have hv256 : 0 ≤ v ∧ v < 256 := ⟨hv0, by simpa using hv1⟩
          have c3 := hI5.c3
          clear hI5 hC5 hyes5 hno5 hv0 hv1 HT
          rcases tk_some bs p1 8 with ⟨h1, hl1⟩ | ⟨h1, hl1⟩
          · obtain ⟨hv, rfl, rfl⟩ := HY5.out _ h1
            rw [takeN_8 HBY.out h8 hl1] at hv
            rw [← hv] at HM
            have HM2 := Lib.hid (HM.out.trans (if_neg (by omega)))
            have e1 : IntKind.u8.wrap v = v := by rw [IntKind.wrap_u8']; omega
            have HP := Lib.hid (wPut_any L R G most (p1 + 8) bs out1 w5 vo1 v HI5.out hv256)
            clear HM HY5 HN5 h1 hv
            go_wp2_with fail
            refine HP.out.mono ?_
            rintro e w6 ⟨rfl, hP6⟩
            have HP6 := Lib.hid (WkTo.trans HC5.out HF4.out hP6)
            clear hP6 HP
            by_cases hm : most ≤ out1.length
            · have HM3 := Lib.hid (HM2.out.trans (if_pos hm))
              rw [if_pos hm, if_pos hm] at HP6
              go_wp2
              go_roundw
              case rel => exact ⟨k + 1, by go_num, by omega, p1 + 8, out1, 5, HP6.out, fun h => absurd h (by decide), fun _ => by rw [HM3.out]⟩
              case measure => simp [intOf]; omega
            · have HM3 := Lib.hid (HM2.out.trans (if_neg hm))
              rw [if_neg hm, if_neg hm] at HP6
              go_wp2
              go_roundw
              case rel => exact ⟨k + 1, by go_num, by omega, p1 + 8, _, 0, HP6.out, fun _ => ⟨HM3.out, by omega⟩, fun h => absurd rfl h⟩
              case measure => simp [intOf]; omega
          · obtain ⟨_, rfl, rfl⟩ := HN5.out h1
            have HM2 := Lib.hid (HM.out.trans (if_pos (by omega)))
            clear HM HY5 HN5 h1
            go_wp2
            go_roundw
            case rel => exact ⟨k + 1, by go_num, by omega, q5, out1, 4, ⟨vo1, HI5.out, HC5.out, HF4.out⟩, fun h => absurd h (by decide), fun _ => by rw [HM2.out]⟩
            case measure => simp [intOf]; omega
        · have d5 : (er1 == 0) = false := by simpa using he
          have HB := Lib.hid (hbad he)
          clear hI4 hC4 hF4 hok hbad
          go_wp2
          go_end0
          exact wb_err HB.out he ⟨vo1, HI4.out, HC4.out, HF4.out⟩
      · have d4 : decide ((k : Int) < (n0 : Int)) = false := decide_eq_false (by omega)
        have HOK := Lib.hid hok
        have HBAD := Lib.hid hbad
        clear hI4 hC4 hF4 hok hbad
        go_wp2
        go_end0
        by_cases he : er1 = 0
        · subst he
          have h9 := (HOK.out rfl).1
          rw [show n0 - k = 0 by omega] at h9
          exact wb_ok h9 ⟨vo1, HI4.out, HC4.out, HF4.out⟩
        · exact wb_err (HBAD.out he) he ⟨vo1, HI4.out, HC4.out, HF4.out⟩
  · have d1 : ((n0 : Int) + (m0 : Int) != 65535) = true := by simp; omega
    have HF := Lib.hid (wFail_any L R G most q3 bs out w3 vo er3 3 HI3.out)
    have HE4 : Hid (fstE er3 3 ≠ 0 ∧ RR.1 = fstE er3 3) := Lib.hid (by
      by_cases he : er3 = 0
      · rw [(HALL.out.2 he).2, if_neg hs, he]; exact ⟨by decide, rfl⟩
      · rw [fstE_ne he]; exact ⟨he, HALL.out.1 he⟩)
    generalize fstE er3 3 = er4 at *
    clear HALL c3
    go_wp2_with fail
    refine HF.out.mono ?_
    rintro e w4 ⟨rfl, hI4, hC4⟩
    have HI4 := Lib.hid hI4
    have HC4 := Lib.hid (HC3.out.trans hC4 (fun k _ e => .inl e))
    have c3 := hI4.c3
    have d5 : (er4 == 0) = false := by have := HE4.out.1; simpa using this
    clear hI4 hC4 HF d1 e1 hs
    go_wp2
    go_loopw [4] (fun i wr => i = .int .i64 0 ∧ wr = w4) (fun i _ => n0 - (intOf i).toNat)
    case atStart => exact ⟨rfl, rfl⟩
    case round =>
      obtain ⟨rfl, rfl⟩ := hrel
      by_cases h0 : 0 < n0
      · have d4 : decide ((0 : Int) < (n0 : Int)) = true := decide_eq_true (by omega)
        go_wp2
        go_end0
        exact wb_err HE4.out.2 HE4.out.1 ⟨vo, HI4.out, HC4.out, .inl rfl⟩
      · have d4 : decide ((0 : Int) < (n0 : Int)) = false := decide_eq_false (by omega)
        go_wp2
        go_end0
        exact wb_err HE4.out.2 HE4.out.1 ⟨vo, HI4.out, HC4.out, .inl rfl⟩
end Go.Proofs.Ytoeipgbnjcgbjaa
/- The document's Inflate: the fixed codes' lengths; single. -/
namespace Go.Proofs.Ytoeipgbnjcgbjaa
open Go.RowKit
set_option linter.unusedVariables false

theorem RowV.low {B : Nat} {w : World} {A : Option Addr} {n c : Nat} {l : List Int} (h : RowV B w (.slice A n c) l) : ∀ b o, A = some ⟨b, o, none⟩ → B ≤ b := fun b o e => (OwnS.lt h b (by rw [e]; rfl)).1
/-- What the fixed codes' lengths leave. -/
def FxPost (w : World) (e : Ending) (w' : World) : Prop :=
  ∃ A1 c1 A2 c2, e = .returned (.tuple #[.slice A1 288 c1, .slice A2 32 c2]) ∧ Ints .i64 w' A1 fixLit ∧ (∀ b o, A1 = some ⟨b, o, none⟩ → w.heap.size ≤ b) ∧ Ints .i64 w' A2 fixDist ∧ (∀ b o, A2 = some ⟨b, o, none⟩ → w.heap.size ≤ b) ∧ Below w.heap.size w w'
set_option maxRecDepth 100000 in
set_option maxHeartbeats 8000000 in
theorem wFixed_any (w : World) : Calls Try.prog 75 #[] w (FxPost w) := by
  obtain ⟨i0, hi, hz0, hz1, hz2⟩ := info_parts Try.info_int
  have HR0 : Hid (RowV w.heap.size w (.slice none 0 0) (fixLit.take 0)) := Lib.hid (OwnS.nil _ _ _ _)
  go_enter Try.func75, Try.ntmps75
  go_wp2
  go_loopw [2, 4] (fun v i wr => ∃ k : Nat, i = .int .i64 k ∧ k ≤ 288 ∧ RowV w.heap.size wr v (fixLit.take k) ∧ Below w.heap.size w wr) (fun _ i _ => 288 - (intOf i).toNat)
  case atStart => exact ⟨0, rfl, by omega, HR0.out, Below.refl _ _⟩
  case round =>
    clear HR0
    obtain ⟨k, rfl, hk, hrow, hbel⟩ := hrel
    have hll : (fixLit.take k).length = k := by rw [List.length_take, fixLit_len]; omega
    obtain ⟨A, c, rfl⟩ := OwnS.shape hrow
    have HB := Lib.hid hbel
    have hws := hbel.size
    rw [hll]
    by_cases hlt : k < 288
    · have d0 : decide ((k : Int) < 288) = true := decide_eq_true (by omega)
      have HS := Lib.hid (take_snoc_getD fixLit k (by rw [fixLit_len]; exact hlt))
      have hx := fixLit_at k hlt
      have HROW := Lib.hid (by have := hrow; unfold RowV at this; rw [hll] at this; exact this : OwnS wr w.heap.size 3 1 (.slice A k c) k ((fixLit.take k).map (Value.int .i64)))
      clear hrow hbel hll
      by_cases c1 : k < 144
      · have d1 : decide ((144 : Int) ≤ (k : Int)) = false := decide_eq_false (by omega)
        have d2 : decide ((256 : Int) ≤ (k : Int)) = false := decide_eq_false (by omega)
        have e5 : fixLit.getD k 0 = 8 := by rw [hx, if_pos c1]
        have HO := Lib.hid (HROW.out.alloc (.cells #[.int .i64 8] 3))
        have hLs : w.heap.size ≤ (wr.alloc (.cells #[.int .i64 8] 3)).heap.size := by simp; omega
        rw [e5] at HS
        clear e5
        go_wp2_with (at_builtin; go_loud (refine wpList_append_S rfl (.tmp 23) (.tmp 25) 121 121 rfl i0 (.int .i64 0) 8 (.slice 3) Try.underlying121 Try.underlying121 (fun _ h => by cases h) hi hz0 hz1 hz2 rfl rfl rfl HO.out (Src.one_new (u := .int .i64 8) rfl) (by unfold maxLen; omega) (by omega) hLs ?_); intro A9 c9 w9 ho9 hg9 hw9)
        all_goals
          have HR9 : Hid (RowV w.heap.size w9 (.slice A9 (k + 1) c9) (fixLit.take (k + 1))) := Lib.hid (by
            unfold RowV
            rw [HS.out, List.length_append, List.map_append, List.length_take, fixLit_len, Nat.min_eq_left (by omega)]
            exact ho9)
          have HB9 := Lib.hid ((HB.out.alloc (by omega) (.cells #[.int .i64 8] 3)).grown hg9 (by simp; omega) (fun k hk => (HROW.out.lt k hk).1))
          clear ho9 hg9 hw9 HO
          go_wp2
          go_roundw
          case rel => exact ⟨k + 1, by go_num, by omega, HR9.out, HB9.out⟩
          case measure => simp [intOf]; omega
      · have d1 : decide ((144 : Int) ≤ (k : Int)) = true := decide_eq_true (by omega)
        by_cases c2 : k < 256
        · have d2 : decide ((k : Int) < 256) = true := decide_eq_true (by omega)
          have d3 : decide ((256 : Int) ≤ (k : Int)) = false := decide_eq_false (by omega)
          have e5 : fixLit.getD k 0 = 9 := by rw [hx, if_neg c1, if_pos c2]
          have HO := Lib.hid (HROW.out.alloc (.cells #[.int .i64 9] 3))
          have hLs : w.heap.size ≤ (wr.alloc (.cells #[.int .i64 9] 3)).heap.size := by simp; omega
          rw [e5] at HS
          clear e5
          go_wp2_with (at_builtin; go_loud (refine wpList_append_S rfl (.tmp 23) (.tmp 25) 121 121 rfl i0 (.int .i64 0) 8 (.slice 3) Try.underlying121 Try.underlying121 (fun _ h => by cases h) hi hz0 hz1 hz2 rfl rfl rfl HO.out (Src.one_new (u := .int .i64 9) rfl) (by unfold maxLen; omega) (by omega) hLs ?_); intro A9 c9 w9 ho9 hg9 hw9)
          all_goals
            have HR9 : Hid (RowV w.heap.size w9 (.slice A9 (k + 1) c9) (fixLit.take (k + 1))) := Lib.hid (by
              unfold RowV
              rw [HS.out, List.length_append, List.map_append, List.length_take, fixLit_len, Nat.min_eq_left (by omega)]
              exact ho9)
            have HB9 := Lib.hid ((HB.out.alloc (by omega) (.cells #[.int .i64 9] 3)).grown hg9 (by simp; omega) (fun k hk => (HROW.out.lt k hk).1))
            clear ho9 hg9 hw9 HO
            go_wp2
            go_roundw
            case rel => exact ⟨k + 1, by go_num, by omega, HR9.out, HB9.out⟩
            case measure => simp [intOf]; omega
        · have d2 : decide ((k : Int) < 256) = false := decide_eq_false (by omega)
          have d3 : decide ((256 : Int) ≤ (k : Int)) = true := decide_eq_true (by omega)
          by_cases c3 : k < 280
          · have d4 : decide ((k : Int) < 280) = true := decide_eq_true (by omega)
            have e5 : fixLit.getD k 0 = 7 := by rw [hx, if_neg c1, if_neg c2, if_pos c3]
            have HO := Lib.hid (HROW.out.alloc (.cells #[.int .i64 7] 3))
            have hLs : w.heap.size ≤ (wr.alloc (.cells #[.int .i64 7] 3)).heap.size := by simp; omega
            rw [e5] at HS
            clear e5
            go_wp2_with (at_builtin; go_loud (refine wpList_append_S rfl (.tmp 23) (.tmp 25) 121 121 rfl i0 (.int .i64 0) 8 (.slice 3) Try.underlying121 Try.underlying121 (fun _ h => by cases h) hi hz0 hz1 hz2 rfl rfl rfl HO.out (Src.one_new (u := .int .i64 7) rfl) (by unfold maxLen; omega) (by omega) hLs ?_); intro A9 c9 w9 ho9 hg9 hw9)
            all_goals
              have HR9 : Hid (RowV w.heap.size w9 (.slice A9 (k + 1) c9) (fixLit.take (k + 1))) := Lib.hid (by
                unfold RowV
                rw [HS.out, List.length_append, List.map_append, List.length_take, fixLit_len, Nat.min_eq_left (by omega)]
                exact ho9)
              have HB9 := Lib.hid ((HB.out.alloc (by omega) (.cells #[.int .i64 7] 3)).grown hg9 (by simp; omega) (fun k hk => (HROW.out.lt k hk).1))
              clear ho9 hg9 hw9 HO
              go_wp2
              go_roundw
              case rel => exact ⟨k + 1, by go_num, by omega, HR9.out, HB9.out⟩
              case measure => simp [intOf]; omega
          · have d4 : decide ((k : Int) < 280) = false := decide_eq_false (by omega)
            have e5 : fixLit.getD k 0 = 8 := by rw [hx, if_neg c1, if_neg c2, if_neg c3]
            have HO := Lib.hid (HROW.out.alloc (.cells #[.int .i64 8] 3))
            have hLs : w.heap.size ≤ (wr.alloc (.cells #[.int .i64 8] 3)).heap.size := by simp; omega
            rw [e5] at HS
            clear e5
            go_wp2_with (at_builtin; go_loud (refine wpList_append_S rfl (.tmp 23) (.tmp 25) 121 121 rfl i0 (.int .i64 0) 8 (.slice 3) Try.underlying121 Try.underlying121 (fun _ h => by cases h) hi hz0 hz1 hz2 rfl rfl rfl HO.out (Src.one_new (u := .int .i64 8) rfl) (by unfold maxLen; omega) (by omega) hLs ?_); intro A9 c9 w9 ho9 hg9 hw9)
            all_goals
              have HR9 : Hid (RowV w.heap.size w9 (.slice A9 (k + 1) c9) (fixLit.take (k + 1))) := Lib.hid (by
                unfold RowV
                rw [HS.out, List.length_append, List.map_append, List.length_take, fixLit_len, Nat.min_eq_left (by omega)]
                exact ho9)
              have HB9 := Lib.hid ((HB.out.alloc (by omega) (.cells #[.int .i64 8] 3)).grown hg9 (by simp; omega) (fun k hk => (HROW.out.lt k hk).1))
              clear ho9 hg9 hw9 HO
              go_wp2
              go_roundw
              case rel => exact ⟨k + 1, by go_num, by omega, HR9.out, HB9.out⟩
              case measure => simp [intOf]; omega
    · have d0 : decide ((k : Int) < 288) = false := decide_eq_false (by omega)
      have hk2 : k = 288 := by omega
      have ht : fixLit.take k = fixLit := List.take_of_length_le (by rw [fixLit_len]; omega)
      have HK2 := Lib.hid hk2
      clear hk2
      rw [ht] at hrow
      have HI := Lib.hid (OwnS.ints hrow)
      have HLOW := Lib.hid hrow.low
      clear hrow hbel ht hll
      generalize hwb : wr = wb at *
      clear hwb
      have HR0 : Hid (RowV wb.heap.size wb (.slice none 0 0) (fixDist.take 0)) := Lib.hid (OwnS.nil _ _ _ _)
      go_wp2
      go_loopw [3, 6] (fun v i wr => ∃ k : Nat, i = .int .i64 k ∧ k ≤ 32 ∧ RowV wb.heap.size wr v (fixDist.take k) ∧ Below wb.heap.size wb wr) (fun _ i _ => 32 - (intOf i).toNat)
      case atStart => exact ⟨0, rfl, by omega, HR0.out, Below.refl _ _⟩
      case round =>
        clear HR0
        obtain ⟨k, rfl, hk, hrow, hbel⟩ := hrel
        have hll : (fixDist.take k).length = k := by rw [List.length_take, fixDist_len]; omega
        obtain ⟨A2, c2, rfl⟩ := OwnS.shape hrow
        have HB2 := Lib.hid hbel
        have hws2 := hbel.size
        rw [hll]
        by_cases hlt : k < 32
        · have d0 : decide ((k : Int) < 32) = true := decide_eq_true (by omega)
          have HS := Lib.hid (take_snoc_getD fixDist k (by rw [fixDist_len]; exact hlt))
          have e5 := fixDist_at k hlt
          have HROW := Lib.hid (by have := hrow; unfold RowV at this; rw [hll] at this; exact this : OwnS wr wb.heap.size 3 1 (.slice A2 k c2) k ((fixDist.take k).map (Value.int .i64)))
          clear hrow hbel hll
          have HO := Lib.hid (HROW.out.alloc (.cells #[.int .i64 5] 3))
          have hLs : wb.heap.size ≤ (wr.alloc (.cells #[.int .i64 5] 3)).heap.size := by simp; omega
          rw [e5] at HS
          clear e5
          go_wp2_with (at_builtin; go_loud (refine wpList_append_S rfl (.tmp 31) (.tmp 32) 121 121 rfl i0 (.int .i64 0) 8 (.slice 3) Try.underlying121 Try.underlying121 (fun _ h => by cases h) hi hz0 hz1 hz2 rfl rfl rfl HO.out (Src.one_new (u := .int .i64 5) rfl) (by unfold maxLen; omega) (by omega) hLs ?_); intro A9 c9 w9 ho9 hg9 hw9)
          all_goals
            have HR9 : Hid (RowV wb.heap.size w9 (.slice A9 (k + 1) c9) (fixDist.take (k + 1))) := Lib.hid (by
              unfold RowV
              rw [HS.out, List.length_append, List.map_append, List.length_take, fixDist_len, Nat.min_eq_left (by omega)]
              exact ho9)
            have HB9 := Lib.hid ((HB2.out.alloc (by omega) (.cells #[.int .i64 5] 3)).grown hg9 (by simp; omega) (fun k hk => (HROW.out.lt k hk).1))
            clear ho9 hg9 hw9 HO
            go_wp2
            go_roundw
            case rel => exact ⟨k + 1, by go_num, by omega, HR9.out, HB9.out⟩
            case measure => simp [intOf]; omega
        · have d0 : decide ((k : Int) < 32) = false := decide_eq_false (by omega)
          have hk3 : k = 32 := by omega
          have ht : fixDist.take k = fixDist := List.take_of_length_le (by rw [fixDist_len]; omega)
          have HK3 := Lib.hid hk3
          clear hk3
          rw [ht] at hrow
          have HI2 := Lib.hid (OwnS.ints hrow)
          have HLOW2 := Lib.hid hrow.low
          have HI1 := Lib.hid (HI.out.below hbel)
          have HBB := Lib.hid (HB.out.trans (hbel.mono hws))
          clear hrow hbel ht hll
          go_wp2
          go_ret2
          have hk2 := HK2.out
          have hk3 := HK3.out
          subst hk2 hk3
          exact ⟨A, c, A2, c2, rfl, HI1.out, HLOW.out, HI2.out, fun b o e => Nat.le_trans hws (HLOW2.out b o e), HBB.out⟩
set_option maxRecDepth 100000 in
set_option maxHeartbeats 4000000 in
theorem wSingle_any (A : Option Addr) (c : Nat) (xs : List Int) (w : World) (h : Ints .i64 w A xs) (hb : cntB xs = true) (hn : xs.length ≤ 400) :
    Calls Try.prog 99 #[.slice A xs.length c] w fun e w' => e = .returned (.bool (fewB xs)) ∧ w = w' := by
  have HBB := Lib.hid hb
  go_enter Try.func99, Try.ntmps99
  go_wp2
  go_loop [3, 4] (fun n i => ∃ k : Nat, k ≤ xs.length ∧ i = .int .i64 k ∧ n = .int .i64 (nPos (xs.take k) : Nat) ∧ Hid (oneB (xs.take k) = true)) (fun _ i => xs.length - (intOf i).toNat)
  case atStart => exact ⟨0, Nat.zero_le _, rfl, rfl, Lib.hid rfl⟩
  case round =>
    obtain ⟨k, hk, rfl, rfl, hone⟩ := hrel
    by_cases hlt : k < xs.length
    · have d0 : decide ((k : Int) < (xs.length : Int)) = true := decide_eq_true (by omega)
      obtain ⟨b, o, rfl, hbs, hcell⟩ := h (by omega)
      have hck := hcell k hlt
      have HS := Lib.hid (take_snoc_getD xs k hlt)
      have hnp := nPos_le (xs.take k)
      rw [List.length_take_of_le hk] at hnp
      have h0 : 0 ≤ xs.getD k 0 := by
        have h1 := List.all_eq_true.1 (show xs.all okLen = true from HBB.out) (xs.getD k 0) (by rw [List.getD_eq_getElem?_getD, List.getElem?_eq_getElem hlt]; exact List.getElem_mem hlt)
        unfold okLen at h1
        simp only [Bool.and_eq_true, decide_eq_true_eq] at h1
        exact h1.1
      have e1 := nPos_snoc (xs.take k) (xs.getD k 0)
      have e2 := oneB_snoc (xs.take k) (xs.getD k 0)
      have HALL : Hid (1 < xs.getD k 0 → fewB xs = false) := Lib.hid fun h1 => by
        rw [fewB_eq]
        have : oneB xs = false := by
          unfold oneB
          rw [List.all_eq_false]
          exact ⟨xs.getD k 0, by rw [List.getD_eq_getElem?_getD, List.getElem?_eq_getElem hlt]; exact List.getElem_mem hlt, by simp only [decide_eq_true_eq]; omega⟩
        rw [this]; rfl
      rw [← HS.out, hone.out] at e2
      rw [← HS.out] at e1
      have HE1 := Lib.hid e1
      have HE2 := Lib.hid e2
      clear e1 e2 hcell h
      generalize xs.getD k 0 = x at *
      generalize nPos (xs.take k) = m at *
      by_cases h1 : 1 < x
      · have d1 : decide (1 < x) = true := decide_eq_true h1
        have HF := Lib.hid (HALL.out h1)
        clear HALL
        go_wp2
        go_ret
        exact ⟨by rw [HF.out]; rfl, rfl⟩
      · have d1 : decide (1 < x) = false := decide_eq_false h1
        have hx01 : x = 0 ∨ x = 1 := by omega
        clear HALL
        rcases hx01 with rfl | rfl
        · go_wp2
          go_round
          case rel => exact ⟨k + 1, by omega, by go_num, by rw [HE1.out]; simp, Lib.hid (by rw [HE2.out]; rfl)⟩
          case measure => simp [intOf]; omega
        · have e3 : IntKind.i64.wrap ((m : Int) + 1) = ((m + 1 : Nat) : Int) := by rw [IntWalk.i64_in _ (by omega)]; omega
          go_wp2
          go_round
          case rel => exact ⟨k + 1, by omega, by go_num, by rw [HE1.out]; simp, Lib.hid (by rw [HE2.out]; rfl)⟩
          case measure => simp [intOf]; omega
    · have d0 : decide ((k : Int) < (xs.length : Int)) = false := decide_eq_false (by omega)
      obtain rfl : k = xs.length := by omega
      rw [List.take_length] at hone
      rw [List.take_length]
      have HF : Hid (fewB xs = decide (nPos xs < 2)) := Lib.hid (by rw [fewB_eq, hone.out]; rfl)
      generalize nPos xs = m at *
      by_cases hm : m < 2
      · have d1 : decide ((m : Int) < 2) = true := decide_eq_true (by omega)
        go_wp2
        go_ret
        exact ⟨by rw [HF.out, decide_eq_true hm]; rfl, rfl⟩
      · have d1 : decide ((m : Int) < 2) = false := decide_eq_false (by omega)
        go_wp2
        go_ret
        exact ⟨by rw [HF.out, decide_eq_false hm]; rfl, rfl⟩
end Go.Proofs.Ytoeipgbnjcgbjaa
/- The document's Inflate: repeat: one length, or some. -/
namespace Go.Proofs.Ytoeipgbnjcgbjaa
open Go.RowKit
set_option linter.unusedVariables false

/-- One symbol of the lengths' code. -/
def stepM (bs own : List Int) (n p : Nat) (out : List Int) : Int × Nat × List Int :=
  if (rd own bs 15 0 p).2.1 ≠ 0 then ((rd own bs 15 0 p).2.1, p, out)
  else if (rd own bs 15 0 p).1 < 16 then (0, (rd own bs 15 0 p).2.2, out ++ [(rd own bs 15 0 p).1])
  else match tk bs (rd own bs 15 0 p).2.2 (repW (rd own bs 15 0 p).1) with
    | none => (4, p, out)
    | some m => if ((rd own bs 15 0 p).1 = 16 ∧ out.length = 0) ∨ n < out.length + repL (rd own bs 15 0 p).1 + m.toNat then (3, p, out)
      else (0, (rd own bs 15 0 p).2.2 + repW (rd own bs 15 0 p).1, out ++ List.replicate (repL (rd own bs 15 0 p).1 + m.toNat) (repV (rd own bs 15 0 p).1 out))
theorem lensM_step (bs own : List Int) (n f p : Nat) (out : List Int) (h : out.length < n) : lensM bs own n (f + 1) p out = if (stepM bs own n p out).1 ≠ 0 then stepM bs own n p out else lensM bs own n f (stepM bs own n p out).2.1 (stepM bs own n p out).2.2 := by
  rw [lensM, if_neg (by omega)]
  unfold stepM
  by_cases a : (rd own bs 15 0 p).2.1 ≠ 0
  · rw [if_pos a, if_pos a, if_pos a]
  · rw [if_neg a, if_neg a]
    by_cases b : (rd own bs 15 0 p).1 < 16
    · rw [if_pos b, if_pos b, if_neg (fun h => h rfl)]
    · rw [if_neg b, if_neg b]
      cases tk bs (rd own bs 15 0 p).2.2 (repW (rd own bs 15 0 p).1) with
      | none => rfl
      | some m =>
        simp only
        by_cases c : ((rd own bs 15 0 p).1 = 16 ∧ out.length = 0) ∨ n < out.length + repL (rd own bs 15 0 p).1 + m.toNat
        · rw [if_pos c, if_pos c]; rfl
        · rw [if_neg c, if_neg c]; rfl
theorem okLen_iff (x : Int) : okLen x = true ↔ 0 ≤ x ∧ x ≤ 15 := by unfold okLen; simp
/-- What a step makes: no more than may be, all of them lengths. -/
theorem stepM_ok {bs own : List Int} {n p : Nat} {out : List Int} (h : (stepM bs own n p out).1 = 0) (hn : out.length < n) (hb : cntB out = true) : out.length < (stepM bs own n p out).2.2.length ∧ (stepM bs own n p out).2.2.length ≤ n ∧ cntB (stepM bs own n p out).2.2 = true := by
  have hs := rd_sym own bs 15 0 p
  unfold stepM at h ⊢
  by_cases a : (rd own bs 15 0 p).2.1 ≠ 0
  · rw [if_pos a] at h; exact absurd h a
  · rw [if_neg a] at h ⊢
    by_cases b : (rd own bs 15 0 p).1 < 16
    · rw [if_pos b]
      refine ⟨by simp, by simp; omega, ?_⟩
      show (out ++ [(rd own bs 15 0 p).1]).all okLen = true
      rw [List.all_append, show out.all okLen = true from hb]
      simp only [List.all_cons, List.all_nil, Bool.and_true, Bool.true_and]
      exact (okLen_iff _).2 ⟨hs.1, by omega⟩
    · rw [if_neg b] at h ⊢
      cases ht : tk bs (rd own bs 15 0 p).2.2 (repW (rd own bs 15 0 p).1) with
      | none => rw [ht] at h; cases h
      | some m =>
        rw [ht] at h
        simp only at h ⊢
        by_cases c : ((rd own bs 15 0 p).1 = 16 ∧ out.length = 0) ∨ n < out.length + repL (rd own bs 15 0 p).1 + m.toNat
        · rw [if_pos c] at h; cases h
        · rw [if_neg c]
          have hr : 3 ≤ repL (rd own bs 15 0 p).1 := by unfold repL; split <;> omega
          refine ⟨by simp; omega, by simp; omega, ?_⟩
          show (out ++ List.replicate _ _).all okLen = true
          rw [List.all_append, show out.all okLen = true from hb, Bool.true_and, List.all_eq_true]
          intro x hx
          rw [(List.mem_replicate.1 hx).2]
          unfold repV
          by_cases d : (rd own bs 15 0 p).1 = 16
          · rw [if_pos d]
            have hl : 0 < out.length := by
              rcases Nat.eq_zero_or_pos out.length with h0 | h0
              · exact absurd (Or.inl ⟨d, h0⟩) c
              · exact h0
            rw [List.getD_eq_getElem?_getD, List.getElem?_eq_getElem (by omega)]
            exact List.all_eq_true.1 (show out.all okLen = true from hb) _ (List.getElem_mem _)
          · rw [if_neg d]; rfl
/-- What stays while lengths are read. -/
structure RpC (R G : Nat) (vo : Value) (w : World) (A : Option Addr) (own : List Int) (lb : Nat) : Prop where
  fi : ∀ k, FiP R G vo k → k < w.heap.size
  lbw : w.heap.size ≤ lb
  far : ∀ b o, A = some ⟨b, o, none⟩ → w.heap.size ≤ b ∧ b ≠ lb
  hb : cntB own = true
  hc : costs own ≤ 32768
  hn : own.length = 19
/-- Between the symbols: the reader, the code's row, the cell of the row that is made, the row. -/
structure RpAt (L R G : Nat) (bs : List Int) (most : Nat) (vo : Value) (out : List Int) (w : World) (A : Option Addr) (own : List Int) (lb : Nat) (v : Value) (o1 : List Int) (p : Nat) (er : Int) (w' : World) : Prop where
  wk : WkAt L R G bs most w' p vo out er
  ln : Ints .i64 w' A own
  cel : Cel w' lb 121 1 (fun _ => v)
  row : RowV w.heap.size w' v o1
  chg : Chg (FiP R G vo) w w'
  sep : ∀ b o, A = some ⟨b, o, none⟩ → v.ownBlock ≠ some b
section
variable {L R G most p q lb : Nat} {bs out own o1 o9 : List Int} {w w' w1 w9 : World} {vo v v9 : Value} {A : Option Addr} {er er1 : Int}
theorem RpAt.lenIn (h : RpAt L R G bs most vo out w A own lb v o1 p er w') (hc : RpC R G vo w A own lb) : LenIn R G vo w' A own :=
  ⟨h.ln, fun _ b o e hf => by have := hc.fi b hf; have := (hc.far b o e).1; omega, hc.hb, hc.hc, by rw [hc.hn]; decide⟩
theorem RpAt.went (h : RpAt L R G bs most vo out w A own lb v o1 p er w') (hc : RpC R G vo w A own lb) (hI : WkAt L R G bs most w1 q vo out er1) (hC : Chg (FiP R G vo) w' w1) : RpAt L R G bs most vo out w A own lb v o1 q er1 w1 :=
  ⟨hI, h.ln.chg hC (fun b o e hf => by have := hc.fi b hf; have := (hc.far b o e).1; omega), h.cel.chg hC (fun hf => by have := hc.fi _ hf; have := hc.lbw; omega), OwnS.chg h.row hC (fun k hk hf => by have := hc.fi k hf; have := (OwnS.lt h.row k hk).1; omega), h.chg.trans hC (fun _ _ h => h), h.sep⟩
/-- One more laid, and the cell told. -/
theorem RpAt.push (h : RpAt L R G bs most vo out w A own lb v o1 p er w') (hc : RpC R G vo w A own lb) (hL : L ≤ w.heap.size) (o : Obj) (hg : (w'.alloc o).grownBy w9 v.ownBlock) (ho : RowV w.heap.size w9 v9 o9) (hw : v9.ownBlock = v.ownBlock ∨ v9.ownBlock = some (w'.alloc o).heap.size) : RpAt L R G bs most vo out w A own lb v9 o9 p er (w9.setCell ⟨lb, 0, none⟩ v9) := by
  have hneg : v.ownBlock ≠ some lb := OwnS.ne_cel h.row h.cel (by decide)
  have hC9 := (h.cel.alloc o).grown hg hneg
  have hlb := h.cel.blk
  have hgr : Chg (fun k => v.ownBlock = some k ∨ k = lb) w' (w9.setCell ⟨lb, 0, none⟩ v9) :=
    (((Chg.refl _ w').alloc o).trans (Chg.of_grown (S := fun k => v.ownBlock = some k ∨ k = lb) hg (fun k hk => .inl hk)) (fun _ _ h => h)).setCell (a := ⟨lb, 0, none⟩) (.inl (.inr rfl)) _
  have hbig : ∀ k, (v.ownBlock = some k ∨ k = lb) → w.heap.size ≤ k := fun k hk => by
    rcases hk with hk | hk
    · exact (OwnS.lt h.row k hk).1
    · rw [hk]; exact hc.lbw
  have hws := h.chg.size
  refine ⟨h.wk.far hgr (fun k hk hs => by have := hc.fi k hk; have := hbig k hs; omega) (fun k hk hs => by have := hbig k hs; omega), h.ln.chg hgr (fun b o e hs => ?_), (hC9.set 0 v9).congr (fun i hi => ?_), OwnS.setFar ho (OwnS.ne_cel ho hC9 (by decide)) _, h.chg.trans hgr (fun i hi hs => by have := hbig i hs; omega), fun b o e hs => ?_⟩
  · rcases hs with hs | hs
    · exact h.sep b o e hs
    · exact (hc.far b o e).2 hs
  · obtain rfl : i = 0 := by omega
    rfl
  · rcases hw with hw | hw
    · exact h.sep b o e (by rw [← hw]; exact hs)
    · rw [hs] at hw
      injection hw with hw
      obtain ⟨b', o', e', hlt, _⟩ := h.ln (by rw [hc.hn]; decide)
      rw [e] at e'
      injection e' with e'
      injection e' with e1 _ _
      simp at hw
      omega
end
def RpPost (L R G : Nat) (bs : List Int) (most : Nat) (vo : Value) (out : List Int) (w : World) (A : Option Addr) (own : List Int) (lb : Nat) (r : Int × Nat × List Int) (e : Ending) (w' : World) : Prop :=
  e = .returned (.tuple #[]) ∧ ∃ v' o' p', RpAt L R G bs most vo out w A own lb v' o' p' r.1 w' ∧ (r.1 = 0 → p' = r.2.1 ∧ o' = r.2.2)
theorem rp_err {L R G : Nat} {bs : List Int} {most : Nat} {vo : Value} {out : List Int} {w w' : World} {A : Option Addr} {own : List Int} {lb : Nat} {r : Int × Nat × List Int} {x : Int} {v : Value} {o : List Int} {p : Nat} (h : r.1 = x) (hx : x ≠ 0) (ha : RpAt L R G bs most vo out w A own lb v o p x w') : RpPost L R G bs most vo out w A own lb r (.returned (.tuple #[])) w' :=
  ⟨rfl, v, o, p, by rw [h]; exact ha, fun e => absurd (h.symm.trans e) hx⟩
theorem rp_ok {L R G : Nat} {bs : List Int} {most : Nat} {vo : Value} {out : List Int} {w w' : World} {A : Option Addr} {own : List Int} {lb : Nat} {r : Int × Nat × List Int} {v : Value} {o : List Int} {p : Nat} (h : r = (0, p, o)) (ha : RpAt L R G bs most vo out w A own lb v o p 0 w') : RpPost L R G bs most vo out w A own lb r (.returned (.tuple #[])) w' := by
  subst h
  exact ⟨rfl, v, o, p, ha, fun _ => ⟨rfl, rfl⟩⟩
set_option maxRecDepth 100000 in
set_option maxHeartbeats 16000000 in
theorem wRepeat_any (L R G most p lb n c : Nat) (A : Option Addr) (bs out own o1 : List Int) (w w0 : World) (vo v : Value) (hC : RpC R G vo w A own lb) (hL : L ≤ w.heap.size) (h : RpAt L R G bs most vo out w A own lb v o1 p 0 w0) (ho : o1.length < n) (hn : n ≤ 1000) :
    Calls Try.prog 98 #[.pointer (some ⟨R, 0, none⟩), .slice A 19 c, .pointer (some ⟨lb, 0, none⟩), .int .i64 n] w0 (RpPost L R G bs most vo out w A own lb (stepM bs own n p o1)) := by
  have HC := Lib.hid hC
  have HQ := Lib.hid (rd_sym own bs 15 0 p)
  have HS := Lib.hid (wSym_ok L R G most p c A bs out own w0 vo h.wk (h.lenIn hC))
  rw [hC.hn] at HS
  have HP := Lib.hid h
  obtain ⟨RR, hRR⟩ : ∃ RR, stepM bs own n p o1 = RR := ⟨_, rfl⟩
  rw [hRR]
  have HM : Hid (RR = _) := Lib.hid (hRR.symm.trans (by rw [stepM]))
  obtain ⟨i0, hi, hz0, hz1, hz2⟩ := info_parts Try.info_int
  clear hC h hRR
  go_enter Try.func98, Try.ntmps98
  go_wp2_with fail
  refine HS.out.mono ?_
  rintro e w2 ⟨rfl, hI2, hC2⟩
  have HP2 := Lib.hid (HP.out.went HC.out hI2 hC2)
  have hq := HQ.out
  rw [HC.out.hn] at hq
  clear hI2 hC2 HS HQ HP
  generalize rd own bs 15 0 p = RES at *
  obtain ⟨s, er, p2⟩ := RES
  simp only at HM hq HP2 ⊢
  have c3 := HP2.out.wk.c3
  by_cases her : er = 0
  · subst her
    have h30 : ¬ ((0 : Int) ≠ 0) := by decide
    have hs19 := hq.2.2.1 rfl
    have e2 : IntKind.i64.wrap ((n : Int) - (o1.length : Int)) = (n : Int) - (o1.length : Int) := IntWalk.i64_in _ (by omega)
    by_cases hs1 : s < 16
    · have d1 : (s == 16) = false := by simp; omega
      have d2 : (s == 17) = false := by simp; omega
      have d3 : (s == 18) = false := by simp; omega
      have HM2 : Hid (RR = if n < o1.length + 1 then (3, p, o1) else (0, p2, o1 ++ List.replicate 1 s)) := Lib.hid (by rw [HM.out]; simp only [h30, if_false, if_pos hs1]; rw [if_neg (by omega)]; rfl)
      have HP3 := HP2
      clear HM HP2
      obtain ⟨A3, c3', hv3⟩ := OwnS.shape HP3.out.row
      subst hv3
      have kl : w2.cell? ⟨lb, 0, none⟩ = some (.slice A3 o1.length c3') := HP3.out.cel.cell 0 (by decide)
      have c3 := HP3.out.wk.c3
      by_cases hbig : n < o1.length + 1
      · exact absurd hbig (by omega)
      · have d5 : decide ((n : Int) - (o1.length : Int) < (1 : Int)) = false := decide_eq_false (by omega)
        have HM5 := Lib.hid (HM2.out.trans (if_neg hbig))
        clear HM2
        go_wp2
        clear d5 e2 kl c3
        go_loopw [11] (fun i wr => ∃ j : Nat, i = .int .i64 j ∧ j ≤ 1 ∧ ∃ v', RpAt L R G bs most vo out w A own lb v' (o1 ++ List.replicate j s) p2 0 wr) (fun i _ => 1 - (intOf i).toNat)
        case atStart => exact ⟨0, rfl, Nat.zero_le _, _, by rw [List.replicate_zero, List.append_nil]; exact HP3.out⟩
        case round =>
          clear HP3
          obtain ⟨j, rfl, hj, v4, hP4⟩ := hrel
          have HLN := Lib.hid (show (o1 ++ List.replicate j s).length = o1.length + j by simp)
          have HP4 := Lib.hid hP4
          have c3 := hP4.wk.c3
          by_cases hjl : j < 1
          · have d7 : decide ((j : Int) < (1 : Int)) = true := decide_eq_true (by omega)
            have HSN := Lib.hid (show (o1 ++ List.replicate j s) ++ [s] = o1 ++ List.replicate (j + 1) s by rw [List.append_assoc, ← List.replicate_succ'])
            generalize o1 ++ List.replicate j s = o2 at *
            have hrow4 := hP4.row
            obtain ⟨A4, c4, rfl⟩ := OwnS.shape hrow4
            have kl : wr.cell? ⟨lb, 0, none⟩ = some (.slice A4 o2.length c4) := hP4.cel.cell 0 (by decide)
            have hmx3 : o2.length + 1 ≤ maxLen := by have := HLN.out; unfold maxLen; omega
            have hmx4 : (o2.length + 1) * 8 ≤ 140737488355328 := by have := HLN.out; omega
            have hown5 := Lib.hid (OwnS.alloc hrow4 (.cells #[.int .i64 s] 3))
            have hLs : w.heap.size ≤ (wr.alloc (.cells #[.int .i64 s] 3)).heap.size := by have := hP4.chg.size; simp; omega
            have hcA : ∀ o, Cel (wr.alloc o) lb 121 1 (fun _ => .slice A4 o2.length c4) := fun o => hP4.cel.alloc o
            have hne4 : (Value.slice A4 o2.length c4).ownBlock ≠ some lb := OwnS.ne_cel hrow4 hP4.cel (by decide)
            clear hrow4 hP4
            go_wp2_with (at_builtin; go_loud (refine wpList_append_S rfl (.tmp 98) (.tmp 100) 121 121 rfl i0 (.int .i64 0) 8 (.slice 3) Try.underlying121 Try.underlying121 (fun _ h => by cases h) hi hz0 hz1 hz2 rfl rfl rfl hown5.out (Src.one_new (u := .int .i64 s) rfl) hmx3 hmx4 hLs ?_); intro A9 c9 w9 ho9 hg9 hw9; have hC9 := (hcA (.cells #[.int .i64 s] 3)).grown hg9 hne4; have f9 := hC9.frozen 0; have k9 : w9.cell? ⟨lb, 0, none⟩ = some (.slice A4 o2.length c4) := hC9.cell 0 (by decide))
            all_goals
              have HP9 := Lib.hid (HP4.out.push HC.out hL _ hg9 (by unfold RowV; rw [List.length_append, List.map_append]; exact ho9 : RowV w.heap.size w9 (.slice A9 (o2.length + 1) c9) (o2 ++ [s])) hw9)
              rw [HSN.out] at HP9
              clear ho9 hg9 hw9 hown5 hC9 f9 k9 kl c3 hcA
              go_wp2
              go_roundw
              case rel => exact ⟨j + 1, by go_num, by omega, _, HP9.out⟩
              case measure => simp [intOf]; omega
          · have d7 : decide ((j : Int) < (1 : Int)) = false := decide_eq_false (by omega)
            obtain rfl : j = 1 := by omega
            clear hP4
            go_wp2
            go_end0
            exact rp_ok HM5.out HP4.out
    · have hs3 : s = 16 ∨ s = 17 ∨ s = 18 := by omega
      have HM2 : Hid (RR = match tk bs p2 (repW s) with
        | none => (4, p, o1)
        | some m => if (s = 16 ∧ o1.length = 0) ∨ n < o1.length + repL s + m.toNat then (3, p, o1) else (0, p2 + repW s, o1 ++ List.replicate (repL s + m.toNat) (repV s o1))) := Lib.hid (by rw [HM.out]; simp only [h30, if_false, if_neg hs1]; try rfl)
      clear HM hs1
      rcases hs3 with rfl | rfl | rfl
      · have HM3 : Hid (RR = match tk bs p2 2 with
          | none => (4, p, o1)
          | some m => if ((16 : Int) = 16 ∧ o1.length = 0) ∨ n < o1.length + 3 + m.toNat then (3, p, o1) else (0, p2 + 2, o1 ++ List.replicate (3 + m.toNat) (repV 16 o1))) := HM2
        clear HM2
        have HT := Lib.hid (wTake_any L R G most p2 2 bs out w2 vo 0 HP2.out.wk (by decide))
        go_wp2_with fail
        refine HT.out.mono ?_
        rintro e w3 ⟨m0, p3, er3, rfl, hm00, hm01, hI3, hC3, _, hyes, hno⟩
        obtain ⟨m, rfl⟩ := Int.eq_ofNat_of_zero_le hm00
        have hm8 : m < 128 := by omega
        have HP3 := Lib.hid (HP2.out.went HC.out hI3 hC3)
        obtain ⟨cnt, hcnt⟩ : ∃ cnt, 3 + m = cnt := ⟨_, rfl⟩
        have e1 : IntKind.i64.wrap ((m : Int) + 3) = (cnt : Int) := by rw [IntWalk.i64_in _ (by omega)]; omega
        have hc2 : 1 ≤ cnt ∧ cnt < 300 := by omega
        have d6 : decide ((0 : Int) < (cnt : Int)) = true := decide_eq_true (by omega)
        have c3 := HP3.out.wk.c3
        cases ht : tk bs p2 2 with
        | none =>
          obtain ⟨_, rfl, rfl⟩ := hno rfl ht
          have HM4 : Hid (RR = (4, p, o1)) := Lib.hid (HM3.out.trans (by rw [ht]))
          clear HM3 ht hyes hno hI3 hC3 HT HP2 hcnt hm00 hm01 e2
          go_wp2
          go_loopw [11] (fun i wr => i = .int .i64 0 ∧ wr = w3) (fun i _ => cnt - (intOf i).toNat)
          case atStart => exact ⟨rfl, rfl⟩
          case round =>
            obtain ⟨rfl, rfl⟩ := hrel
            go_wp2
            go_end0
            exact rp_err (by rw [HM4.out]) (by decide) HP3.out
        | some mm =>
          obtain ⟨hmv, hp3, hz⟩ := hyes rfl mm ht
          subst hz
          have HM4 : Hid (RR = if ((16 : Int) = 16 ∧ o1.length = 0) ∨ n < o1.length + cnt then (3, p, o1) else (0, p3, o1 ++ List.replicate cnt (repV 16 o1))) := Lib.hid (HM3.out.trans (by rw [ht, ← hmv, hp3, ← hcnt]; simp only [Int.toNat_natCast, Nat.add_assoc]))
          clear HM3 ht hyes hno hI3 hC3 HT HP2 hcnt hm00 hm01 hp3 hmv
          obtain ⟨A3, c3', hv3⟩ := OwnS.shape HP3.out.row
          subst hv3
          have kl : w3.cell? ⟨lb, 0, none⟩ = some (.slice A3 o1.length c3') := HP3.out.cel.cell 0 (by decide)
          by_cases hz : o1.length = 0
          · have d8 : ((o1.length : Int) == 0) = true := by simpa using hz
            have HM5 : Hid (RR = (3, p, o1)) := Lib.hid (HM4.out.trans (if_pos (.inl (by simp [hz]))))
            have HF := Lib.hid (wFail_any L R G most p3 bs out w3 vo 0 3 HP3.out.wk)
            rw [fstE_z] at HF
            clear HM4
            go_wp2_with fail
            refine HF.out.mono ?_
            rintro e w4 ⟨rfl, hI4, hC4⟩
            have HP4 := Lib.hid (HP3.out.went HC.out hI4 (hC4.mono (fun k _ e => .inl e)))
            have c3 := HP4.out.wk.c3
            clear hI4 hC4 HF e2
            go_wp2
            go_loopw [11] (fun i wr => i = .int .i64 0 ∧ wr = w4) (fun i _ => cnt - (intOf i).toNat)
            case atStart => exact ⟨rfl, rfl⟩
            case round =>
              obtain ⟨rfl, rfl⟩ := hrel
              go_wp2
              go_end0
              exact rp_err (by rw [HM5.out]) (by decide) HP4.out
          · have d8 : ((o1.length : Int) == 0) = false := by simpa using hz
            have HM2 : Hid (RR = if n < o1.length + cnt then (3, p, o1) else (0, p3, o1 ++ List.replicate cnt (repV 16 o1))) := Lib.hid (HM4.out.trans (by by_cases hb : n < o1.length + cnt; rw [if_pos (.inr hb), if_pos hb]; rw [if_neg (by omega), if_neg hb]))
            have hrow5 := HP3.out.row
            obtain ⟨b5, o5, rfl, hb5, hcell5⟩ := OwnS.ints hrow5 (by omega)
            have kx := hcell5 (o1.length - 1) (by omega)
            obtain ⟨dd, hdd⟩ : ∃ dd, o1.length - 1 = dd := ⟨_, rfl⟩
            have hV : repV 16 o1 = o1.getD dd 0 := by rw [← hdd]; rfl
            rw [hdd, ← hV] at kx
            have e5 : IntKind.i64.wrap ((o1.length : Int) - 1) = (dd : Int) := by rw [IntWalk.i64_in _ (by omega)]; omega
            have e6 : (o1.length : Int) - 1 = (dd : Int) := by omega
            have s3 : dd < o1.length := by omega
            have s4 : (dd : Int) < (o1.length : Int) := by omega
            have s5 : (0 : Int) ≤ (dd : Int) := by omega
            clear hcell5 hrow5 hV hdd HM4
            generalize repV 16 o1 = val at *
            go_wp2
            go_quiet (fail)
            have HP3' := Lib.hid (HP3.out.went HC.out (HP3.out.wk.drewN nq) ((Chg.refl _ _).drewN nq))
            clear HP3 kl c3 kx
            have HP3 := HP3'
            clear HP3'
            generalize w3.drewN nq = w3 at *
            have kl : w3.cell? ⟨lb, 0, none⟩ = some (.slice (some ⟨b5, o5, none⟩) o1.length c3') := HP3.out.cel.cell 0 (by decide)
            have c3 := HP3.out.wk.c3
            by_cases hbig : n < o1.length + cnt
            · have d5 : decide ((n : Int) - (o1.length : Int) < (cnt : Int)) = true := decide_eq_true (by omega)
              have HM5 := Lib.hid (HM2.out.trans (if_pos hbig))
              have HF := Lib.hid (wFail_any L R G most p3 bs out w3 vo 0 3 HP3.out.wk)
              rw [fstE_z] at HF
              have d6 : decide ((0 : Int) < (cnt : Int)) = true := decide_eq_true (by omega)
              clear HM2
              go_wp2_with fail
              refine HF.out.mono ?_
              rintro e w4 ⟨rfl, hI4, hC4⟩
              have HP4 := Lib.hid (HP3.out.went HC.out hI4 (hC4.mono (fun k _ e => .inl e)))
              have c3 := HP4.out.wk.c3
              clear hI4 hC4 HF d5 e2
              go_wp2
              go_loopw [11] (fun i wr => i = .int .i64 0 ∧ wr = w4) (fun i _ => cnt - (intOf i).toNat)
              case atStart => exact ⟨rfl, rfl⟩
              case round =>
                obtain ⟨rfl, rfl⟩ := hrel
                go_wp2
                go_end0
                exact rp_err (by rw [HM5.out]) (by decide) HP4.out
            · have d5 : decide ((n : Int) - (o1.length : Int) < (cnt : Int)) = false := decide_eq_false (by omega)
              have HM5 := Lib.hid (HM2.out.trans (if_neg hbig))
              clear HM2
              go_wp2
              clear d5 e2 kl c3
              go_loopw [11] (fun i wr => ∃ j : Nat, i = .int .i64 j ∧ j ≤ cnt ∧ ∃ v', RpAt L R G bs most vo out w A own lb v' (o1 ++ List.replicate j val) p3 0 wr) (fun i _ => cnt - (intOf i).toNat)
              case atStart => exact ⟨0, rfl, Nat.zero_le _, _, by rw [List.replicate_zero, List.append_nil]; exact HP3.out⟩
              case round =>
                clear HP3
                obtain ⟨j, rfl, hj, v4, hP4⟩ := hrel
                have HLN := Lib.hid (show (o1 ++ List.replicate j val).length = o1.length + j by simp)
                have HP4 := Lib.hid hP4
                have c3 := hP4.wk.c3
                by_cases hjl : j < cnt
                · have d7 : decide ((j : Int) < (cnt : Int)) = true := decide_eq_true (by omega)
                  have HSN := Lib.hid (show (o1 ++ List.replicate j val) ++ [val] = o1 ++ List.replicate (j + 1) val by rw [List.append_assoc, ← List.replicate_succ'])
                  generalize o1 ++ List.replicate j val = o2 at *
                  have hrow4 := hP4.row
                  obtain ⟨A4, c4, rfl⟩ := OwnS.shape hrow4
                  have kl : wr.cell? ⟨lb, 0, none⟩ = some (.slice A4 o2.length c4) := hP4.cel.cell 0 (by decide)
                  have hmx3 : o2.length + 1 ≤ maxLen := by have := HLN.out; unfold maxLen; omega
                  have hmx4 : (o2.length + 1) * 8 ≤ 140737488355328 := by have := HLN.out; omega
                  have hown5 := Lib.hid (OwnS.alloc hrow4 (.cells #[.int .i64 val] 3))
                  have hLs : w.heap.size ≤ (wr.alloc (.cells #[.int .i64 val] 3)).heap.size := by have := hP4.chg.size; simp; omega
                  have hcA : ∀ o, Cel (wr.alloc o) lb 121 1 (fun _ => .slice A4 o2.length c4) := fun o => hP4.cel.alloc o
                  have hne4 : (Value.slice A4 o2.length c4).ownBlock ≠ some lb := OwnS.ne_cel hrow4 hP4.cel (by decide)
                  clear hrow4 hP4
                  go_wp2_with (at_builtin; go_loud (refine wpList_append_S rfl (.tmp 98) (.tmp 100) 121 121 rfl i0 (.int .i64 0) 8 (.slice 3) Try.underlying121 Try.underlying121 (fun _ h => by cases h) hi hz0 hz1 hz2 rfl rfl rfl hown5.out (Src.one_new (u := .int .i64 val) rfl) hmx3 hmx4 hLs ?_); intro A9 c9 w9 ho9 hg9 hw9; have hC9 := (hcA (.cells #[.int .i64 val] 3)).grown hg9 hne4; have f9 := hC9.frozen 0; have k9 : w9.cell? ⟨lb, 0, none⟩ = some (.slice A4 o2.length c4) := hC9.cell 0 (by decide))
                  all_goals
                    have HP9 := Lib.hid (HP4.out.push HC.out hL _ hg9 (by unfold RowV; rw [List.length_append, List.map_append]; exact ho9 : RowV w.heap.size w9 (.slice A9 (o2.length + 1) c9) (o2 ++ [val])) hw9)
                    rw [HSN.out] at HP9
                    clear ho9 hg9 hw9 hown5 hC9 f9 k9 kl c3 hcA
                    go_wp2
                    go_roundw
                    case rel => exact ⟨j + 1, by go_num, by omega, _, HP9.out⟩
                    case measure => simp [intOf]; omega
                · have d7 : decide ((j : Int) < (cnt : Int)) = false := decide_eq_false (by omega)
                  obtain rfl : j = cnt := by omega
                  clear hP4
                  go_wp2
                  go_end0
                  exact rp_ok HM5.out HP4.out
      · have HM3 : Hid (RR = match tk bs p2 3 with
          | none => (4, p, o1)
          | some m => if ((17 : Int) = 16 ∧ o1.length = 0) ∨ n < o1.length + 3 + m.toNat then (3, p, o1) else (0, p2 + 3, o1 ++ List.replicate (3 + m.toNat) (repV 17 o1))) := HM2
        clear HM2
        have HT := Lib.hid (wTake_any L R G most p2 3 bs out w2 vo 0 HP2.out.wk (by decide))
        go_wp2_with fail
        refine HT.out.mono ?_
        rintro e w3 ⟨m0, p3, er3, rfl, hm00, hm01, hI3, hC3, _, hyes, hno⟩
        obtain ⟨m, rfl⟩ := Int.eq_ofNat_of_zero_le hm00
        have hm8 : m < 128 := by omega
        have HP3 := Lib.hid (HP2.out.went HC.out hI3 hC3)
        obtain ⟨cnt, hcnt⟩ : ∃ cnt, 3 + m = cnt := ⟨_, rfl⟩
        have e1 : IntKind.i64.wrap ((m : Int) + 3) = (cnt : Int) := by rw [IntWalk.i64_in _ (by omega)]; omega
        have hc2 : 1 ≤ cnt ∧ cnt < 300 := by omega
        have d6 : decide ((0 : Int) < (cnt : Int)) = true := decide_eq_true (by omega)
        have c3 := HP3.out.wk.c3
        cases ht : tk bs p2 3 with
        | none =>
          obtain ⟨_, rfl, rfl⟩ := hno rfl ht
          have HM4 : Hid (RR = (4, p, o1)) := Lib.hid (HM3.out.trans (by rw [ht]))
          clear HM3 ht hyes hno hI3 hC3 HT HP2 hcnt hm00 hm01 e2
          go_wp2
          go_loopw [11] (fun i wr => i = .int .i64 0 ∧ wr = w3) (fun i _ => cnt - (intOf i).toNat)
          case atStart => exact ⟨rfl, rfl⟩
          case round =>
            obtain ⟨rfl, rfl⟩ := hrel
            go_wp2
            go_end0
            exact rp_err (by rw [HM4.out]) (by decide) HP3.out
        | some mm =>
          obtain ⟨hmv, hp3, hz⟩ := hyes rfl mm ht
          subst hz
          have HM4 : Hid (RR = if ((17 : Int) = 16 ∧ o1.length = 0) ∨ n < o1.length + cnt then (3, p, o1) else (0, p3, o1 ++ List.replicate cnt (repV 17 o1))) := Lib.hid (HM3.out.trans (by rw [ht, ← hmv, hp3, ← hcnt]; simp only [Int.toNat_natCast, Nat.add_assoc]))
          clear HM3 ht hyes hno hI3 hC3 HT HP2 hcnt hm00 hm01 hp3 hmv
          have HM2 : Hid (RR = if n < o1.length + cnt then (3, p, o1) else (0, p3, o1 ++ List.replicate cnt (repV 17 o1))) := Lib.hid (HM4.out.trans (by by_cases hb : n < o1.length + cnt; rw [if_pos (.inr hb), if_pos hb]; rw [if_neg (by rintro (⟨h, _⟩ | h); exact absurd h (by decide); exact hb h), if_neg hb]))
          have HM2' : Hid (RR = if n < o1.length + cnt then (3, p, o1) else (0, p3, o1 ++ List.replicate cnt 0)) := HM2
          clear HM4 HM2
          have HM2 := HM2'
          clear HM2'
          obtain ⟨A3, c3', hv3⟩ := OwnS.shape HP3.out.row
          subst hv3
          have kl : w3.cell? ⟨lb, 0, none⟩ = some (.slice A3 o1.length c3') := HP3.out.cel.cell 0 (by decide)
          have c3 := HP3.out.wk.c3
          by_cases hbig : n < o1.length + cnt
          · have d5 : decide ((n : Int) - (o1.length : Int) < (cnt : Int)) = true := decide_eq_true (by omega)
            have HM5 := Lib.hid (HM2.out.trans (if_pos hbig))
            have HF := Lib.hid (wFail_any L R G most p3 bs out w3 vo 0 3 HP3.out.wk)
            rw [fstE_z] at HF
            have d6 : decide ((0 : Int) < (cnt : Int)) = true := decide_eq_true (by omega)
            clear HM2
            go_wp2_with fail
            refine HF.out.mono ?_
            rintro e w4 ⟨rfl, hI4, hC4⟩
            have HP4 := Lib.hid (HP3.out.went HC.out hI4 (hC4.mono (fun k _ e => .inl e)))
            have c3 := HP4.out.wk.c3
            clear hI4 hC4 HF d5 e2
            go_wp2
            go_loopw [11] (fun i wr => i = .int .i64 0 ∧ wr = w4) (fun i _ => cnt - (intOf i).toNat)
            case atStart => exact ⟨rfl, rfl⟩
            case round =>
              obtain ⟨rfl, rfl⟩ := hrel
              go_wp2
              go_end0
              exact rp_err (by rw [HM5.out]) (by decide) HP4.out
          · have d5 : decide ((n : Int) - (o1.length : Int) < (cnt : Int)) = false := decide_eq_false (by omega)
            have HM5 := Lib.hid (HM2.out.trans (if_neg hbig))
            clear HM2
            go_wp2
            clear d5 e2 kl c3
            go_loopw [11] (fun i wr => ∃ j : Nat, i = .int .i64 j ∧ j ≤ cnt ∧ ∃ v', RpAt L R G bs most vo out w A own lb v' (o1 ++ List.replicate j 0) p3 0 wr) (fun i _ => cnt - (intOf i).toNat)
            case atStart => exact ⟨0, rfl, Nat.zero_le _, _, by rw [List.replicate_zero, List.append_nil]; exact HP3.out⟩
            case round =>
              clear HP3
              obtain ⟨j, rfl, hj, v4, hP4⟩ := hrel
              have HLN := Lib.hid (show (o1 ++ List.replicate j 0).length = o1.length + j by simp)
              have HP4 := Lib.hid hP4
              have c3 := hP4.wk.c3
              by_cases hjl : j < cnt
              · have d7 : decide ((j : Int) < (cnt : Int)) = true := decide_eq_true (by omega)
                have HSN := Lib.hid (show (o1 ++ List.replicate j 0) ++ [0] = o1 ++ List.replicate (j + 1) 0 by rw [List.append_assoc, ← List.replicate_succ'])
                generalize o1 ++ List.replicate j 0 = o2 at *
                have hrow4 := hP4.row
                obtain ⟨A4, c4, rfl⟩ := OwnS.shape hrow4
                have kl : wr.cell? ⟨lb, 0, none⟩ = some (.slice A4 o2.length c4) := hP4.cel.cell 0 (by decide)
                have hmx3 : o2.length + 1 ≤ maxLen := by have := HLN.out; unfold maxLen; omega
                have hmx4 : (o2.length + 1) * 8 ≤ 140737488355328 := by have := HLN.out; omega
                have hown5 := Lib.hid (OwnS.alloc hrow4 (.cells #[.int .i64 0] 3))
                have hLs : w.heap.size ≤ (wr.alloc (.cells #[.int .i64 0] 3)).heap.size := by have := hP4.chg.size; simp; omega
                have hcA : ∀ o, Cel (wr.alloc o) lb 121 1 (fun _ => .slice A4 o2.length c4) := fun o => hP4.cel.alloc o
                have hne4 : (Value.slice A4 o2.length c4).ownBlock ≠ some lb := OwnS.ne_cel hrow4 hP4.cel (by decide)
                clear hrow4 hP4
                go_wp2_with (at_builtin; go_loud (refine wpList_append_S rfl (.tmp 98) (.tmp 100) 121 121 rfl i0 (.int .i64 0) 8 (.slice 3) Try.underlying121 Try.underlying121 (fun _ h => by cases h) hi hz0 hz1 hz2 rfl rfl rfl hown5.out (Src.one_new (u := .int .i64 0) rfl) hmx3 hmx4 hLs ?_); intro A9 c9 w9 ho9 hg9 hw9; have hC9 := (hcA (.cells #[.int .i64 0] 3)).grown hg9 hne4; have f9 := hC9.frozen 0; have k9 : w9.cell? ⟨lb, 0, none⟩ = some (.slice A4 o2.length c4) := hC9.cell 0 (by decide))
                all_goals
                  have HP9 := Lib.hid (HP4.out.push HC.out hL _ hg9 (by unfold RowV; rw [List.length_append, List.map_append]; exact ho9 : RowV w.heap.size w9 (.slice A9 (o2.length + 1) c9) (o2 ++ [0])) hw9)
                  rw [HSN.out] at HP9
                  clear ho9 hg9 hw9 hown5 hC9 f9 k9 kl c3 hcA
                  go_wp2
                  go_roundw
                  case rel => exact ⟨j + 1, by go_num, by omega, _, HP9.out⟩
                  case measure => simp [intOf]; omega
              · have d7 : decide ((j : Int) < (cnt : Int)) = false := decide_eq_false (by omega)
                obtain rfl : j = cnt := by omega
                clear hP4
                go_wp2
                go_end0
                exact rp_ok HM5.out HP4.out
      · have HM3 : Hid (RR = match tk bs p2 7 with
          | none => (4, p, o1)
          | some m => if ((18 : Int) = 16 ∧ o1.length = 0) ∨ n < o1.length + 11 + m.toNat then (3, p, o1) else (0, p2 + 7, o1 ++ List.replicate (11 + m.toNat) (repV 18 o1))) := HM2
        clear HM2
        have HT := Lib.hid (wTake_any L R G most p2 7 bs out w2 vo 0 HP2.out.wk (by decide))
        go_wp2_with fail
        refine HT.out.mono ?_
        rintro e w3 ⟨m0, p3, er3, rfl, hm00, hm01, hI3, hC3, _, hyes, hno⟩
        obtain ⟨m, rfl⟩ := Int.eq_ofNat_of_zero_le hm00
        have hm8 : m < 128 := by omega
        have HP3 := Lib.hid (HP2.out.went HC.out hI3 hC3)
        obtain ⟨cnt, hcnt⟩ : ∃ cnt, 11 + m = cnt := ⟨_, rfl⟩
        have e1 : IntKind.i64.wrap ((m : Int) + 11) = (cnt : Int) := by rw [IntWalk.i64_in _ (by omega)]; omega
        have hc2 : 1 ≤ cnt ∧ cnt < 300 := by omega
        have d6 : decide ((0 : Int) < (cnt : Int)) = true := decide_eq_true (by omega)
        have c3 := HP3.out.wk.c3
        cases ht : tk bs p2 7 with
        | none =>
          obtain ⟨_, rfl, rfl⟩ := hno rfl ht
          have HM4 : Hid (RR = (4, p, o1)) := Lib.hid (HM3.out.trans (by rw [ht]))
          clear HM3 ht hyes hno hI3 hC3 HT HP2 hcnt hm00 hm01 e2
          go_wp2
          go_loopw [11] (fun i wr => i = .int .i64 0 ∧ wr = w3) (fun i _ => cnt - (intOf i).toNat)
          case atStart => exact ⟨rfl, rfl⟩
          case round =>
            obtain ⟨rfl, rfl⟩ := hrel
            go_wp2
            go_end0
            exact rp_err (by rw [HM4.out]) (by decide) HP3.out
        | some mm =>
          obtain ⟨hmv, hp3, hz⟩ := hyes rfl mm ht
          subst hz
          have HM4 : Hid (RR = if ((18 : Int) = 16 ∧ o1.length = 0) ∨ n < o1.length + cnt then (3, p, o1) else (0, p3, o1 ++ List.replicate cnt (repV 18 o1))) := Lib.hid (HM3.out.trans (by rw [ht, ← hmv, hp3, ← hcnt]; simp only [Int.toNat_natCast, Nat.add_assoc]))
          clear HM3 ht hyes hno hI3 hC3 HT HP2 hcnt hm00 hm01 hp3 hmv
          have HM2 : Hid (RR = if n < o1.length + cnt then (3, p, o1) else (0, p3, o1 ++ List.replicate cnt (repV 18 o1))) := Lib.hid (HM4.out.trans (by by_cases hb : n < o1.length + cnt; rw [if_pos (.inr hb), if_pos hb]; rw [if_neg (by rintro (⟨h, _⟩ | h); exact absurd h (by decide); exact hb h), if_neg hb]))
          have HM2' : Hid (RR = if n < o1.length + cnt then (3, p, o1) else (0, p3, o1 ++ List.replicate cnt 0)) := HM2
          clear HM4 HM2
          have HM2 := HM2'
          clear HM2'
          obtain ⟨A3, c3', hv3⟩ := OwnS.shape HP3.out.row
          subst hv3
          have kl : w3.cell? ⟨lb, 0, none⟩ = some (.slice A3 o1.length c3') := HP3.out.cel.cell 0 (by decide)
          have c3 := HP3.out.wk.c3
          by_cases hbig : n < o1.length + cnt
          · have d5 : decide ((n : Int) - (o1.length : Int) < (cnt : Int)) = true := decide_eq_true (by omega)
            have HM5 := Lib.hid (HM2.out.trans (if_pos hbig))
            have HF := Lib.hid (wFail_any L R G most p3 bs out w3 vo 0 3 HP3.out.wk)
            rw [fstE_z] at HF
            have d6 : decide ((0 : Int) < (cnt : Int)) = true := decide_eq_true (by omega)
            clear HM2
            go_wp2_with fail
            refine HF.out.mono ?_
            rintro e w4 ⟨rfl, hI4, hC4⟩
            have HP4 := Lib.hid (HP3.out.went HC.out hI4 (hC4.mono (fun k _ e => .inl e)))
            have c3 := HP4.out.wk.c3
            clear hI4 hC4 HF d5 e2
            go_wp2
            go_loopw [11] (fun i wr => i = .int .i64 0 ∧ wr = w4) (fun i _ => cnt - (intOf i).toNat)
            case atStart => exact ⟨rfl, rfl⟩
            case round =>
              obtain ⟨rfl, rfl⟩ := hrel
              go_wp2
              go_end0
              exact rp_err (by rw [HM5.out]) (by decide) HP4.out
          · have d5 : decide ((n : Int) - (o1.length : Int) < (cnt : Int)) = false := decide_eq_false (by omega)
            have HM5 := Lib.hid (HM2.out.trans (if_neg hbig))
            clear HM2
            go_wp2
            clear d5 e2 kl c3
            go_loopw [11] (fun i wr => ∃ j : Nat, i = .int .i64 j ∧ j ≤ cnt ∧ ∃ v', RpAt L R G bs most vo out w A own lb v' (o1 ++ List.replicate j 0) p3 0 wr) (fun i _ => cnt - (intOf i).toNat)
            case atStart => exact ⟨0, rfl, Nat.zero_le _, _, by rw [List.replicate_zero, List.append_nil]; exact HP3.out⟩
            case round =>
              clear HP3
              obtain ⟨j, rfl, hj, v4, hP4⟩ := hrel
              have HLN := Lib.hid (show (o1 ++ List.replicate j 0).length = o1.length + j by simp)
              have HP4 := Lib.hid hP4
              have c3 := hP4.wk.c3
              by_cases hjl : j < cnt
              · have d7 : decide ((j : Int) < (cnt : Int)) = true := decide_eq_true (by omega)
                have HSN := Lib.hid (show (o1 ++ List.replicate j 0) ++ [0] = o1 ++ List.replicate (j + 1) 0 by rw [List.append_assoc, ← List.replicate_succ'])
                generalize o1 ++ List.replicate j 0 = o2 at *
                have hrow4 := hP4.row
                obtain ⟨A4, c4, rfl⟩ := OwnS.shape hrow4
                have kl : wr.cell? ⟨lb, 0, none⟩ = some (.slice A4 o2.length c4) := hP4.cel.cell 0 (by decide)
                have hmx3 : o2.length + 1 ≤ maxLen := by have := HLN.out; unfold maxLen; omega
                have hmx4 : (o2.length + 1) * 8 ≤ 140737488355328 := by have := HLN.out; omega
                have hown5 := Lib.hid (OwnS.alloc hrow4 (.cells #[.int .i64 0] 3))
                have hLs : w.heap.size ≤ (wr.alloc (.cells #[.int .i64 0] 3)).heap.size := by have := hP4.chg.size; simp; omega
                have hcA : ∀ o, Cel (wr.alloc o) lb 121 1 (fun _ => .slice A4 o2.length c4) := fun o => hP4.cel.alloc o
                have hne4 : (Value.slice A4 o2.length c4).ownBlock ≠ some lb := OwnS.ne_cel hrow4 hP4.cel (by decide)
                clear hrow4 hP4
                go_wp2_with (at_builtin; go_loud (refine wpList_append_S rfl (.tmp 98) (.tmp 100) 121 121 rfl i0 (.int .i64 0) 8 (.slice 3) Try.underlying121 Try.underlying121 (fun _ h => by cases h) hi hz0 hz1 hz2 rfl rfl rfl hown5.out (Src.one_new (u := .int .i64 0) rfl) hmx3 hmx4 hLs ?_); intro A9 c9 w9 ho9 hg9 hw9; have hC9 := (hcA (.cells #[.int .i64 0] 3)).grown hg9 hne4; have f9 := hC9.frozen 0; have k9 : w9.cell? ⟨lb, 0, none⟩ = some (.slice A4 o2.length c4) := hC9.cell 0 (by decide))
                all_goals
                  have HP9 := Lib.hid (HP4.out.push HC.out hL _ hg9 (by unfold RowV; rw [List.length_append, List.map_append]; exact ho9 : RowV w.heap.size w9 (.slice A9 (o2.length + 1) c9) (o2 ++ [0])) hw9)
                  rw [HSN.out] at HP9
                  clear ho9 hg9 hw9 hown5 hC9 f9 k9 kl c3 hcA
                  go_wp2
                  go_roundw
                  case rel => exact ⟨j + 1, by go_num, by omega, _, HP9.out⟩
                  case measure => simp [intOf]; omega
              · have d7 : decide ((j : Int) < (cnt : Int)) = false := decide_eq_false (by omega)
                obtain rfl : j = cnt := by omega
                clear hP4
                go_wp2
                go_end0
                exact rp_ok HM5.out HP4.out
  · have d2 : (er != 0) = true := by simpa using her
    have HM2 : Hid (RR = (er, p, o1)) := Lib.hid (by rw [HM.out]; simp only [ne_eq, her, not_false_eq_true, if_true])
    clear HM
    go_wp2
    (try simp only [Exit.inBlock, Exit.then])
    refine bodyPost_ret (results_none rfl _ _ _) rfl ?_
    exact rp_err (by rw [HM2.out]) her HP2.out
end Go.Proofs.Ytoeipgbnjcgbjaa
/- The document's Inflate: a dynamic block's lengths. -/
namespace Go.Proofs.Ytoeipgbnjcgbjaa
open Go.RowKit
set_option linter.unusedVariables false

theorem RowI.same {e : TypeId} {k : IntKind} {B : Nat} {w w' : World} {g n c : Nat} {l : List Int} (h : RowI e k B w g n c l) (hw : w'.heap[g]? = w.heap[g]?) : RowI e k B w' g n c l := by
  refine ⟨h.1, ?_⟩
  rcases h.2 with hn | ⟨g', cap, cur, hv, hg, hh, rest⟩
  · exact .inl hn
  · refine .inr ⟨g', cap, cur, hv, hg, ?_, rest⟩
    injection hv with hA _ _
    injection hA with hA
    injection hA with h1 _ _
    rw [← h1] at hh ⊢
    rw [hw]
    exact hh
theorem RowI.chgS {S : Nat → Prop} {e : TypeId} {k : IntKind} {B : Nat} {w w' : World} {g n c : Nat} {l : List Int} (h : RowI e k B w g n c l) (hc : Chg S w w') (hn : ¬ S g) : RowI e k B w' g n c l :=
  h.same (hc.block g (RowI.base h).2 hn)
/-- Before the lengths' lengths are read: between the rounds. -/
structure LgAt (L R G : Nat) (bs : List Int) (most : Nat) (vo : Value) (out : List Int) (w : World) (gF PO : Nat) (own : List Int) (p : Nat) (er : Int) (w' : World) : Prop where
  wk : WkAt L R G bs most w' p vo out er
  ord : Ints .i64 w' (some ⟨PO, 0, none⟩) (orderL.map fun (n : Nat) => (n : Int))
  row : RowI 3 .i64 w.heap.size w' gF 19 19 own
  chg : Chg (FiP R G vo) w w'
section
variable {L R G most p q gF PO : Nat} {bs out own : List Int} {w w' w1 : World} {vo : Value} {er er1 : Int}
theorem LgAt.went (h : LgAt L R G bs most vo out w gF PO own p er w') (hf : ∀ k, FiP R G vo k → k < w.heap.size) (hPO : w.heap.size ≤ PO) (hI : WkAt L R G bs most w1 q vo out er1) (hC : Chg (FiP R G vo) w' w1) : LgAt L R G bs most vo out w gF PO own q er1 w1 :=
  ⟨hI, h.ord.chg hC (fun b o e hs => by injection e with e; injection e with e1 _ _; have := hf b hs; omega), h.row.chgS hC (fun hs => by have := hf gF hs; have := (RowI.base h.row).1; omega), h.chg.trans hC (fun _ _ h => h)⟩
theorem LgAt.put (h : LgAt L R G bs most vo out w gF PO own p er w') (hf : ∀ k, FiP R G vo k → k < w.heap.size) (hL : L ≤ w.heap.size) (hne : gF ≠ PO) (j : Nat) (x : Int) : LgAt L R G bs most vo out w gF PO (own.set j x) p er (w'.setCell ⟨gF, j, none⟩ (.int .i64 x)) := by
  have hb := (RowI.base h.row).1
  have hc : Chg (fun k => k = gF) w' (w'.setCell ⟨gF, j, none⟩ (.int .i64 x)) := (Chg.refl (fun k => k = gF) w').setCell (a := ⟨gF, j, none⟩) (.inl rfl) _
  exact ⟨h.wk.far hc (fun k hk hs => by have := hf k hk; omega) (fun k hk hs => by omega), h.ord.chg hc (fun b o e hs => by injection e with e; injection e with e1 _ _; omega), RowI.set h.row j x, h.chg.trans hc (fun i hi hs => absurd hs (by omega))⟩
end
/-- take, then the store: between the operations. -/
def JTk (L R G : Nat) (bs : List Int) (most : Nat) (vo : Value) (out : List Int) (q gF ok : Nat) (w0 : World) : List Value → World → Prop
  | [], w => w = w0
  | [v], w => TkPost L R G bs most vo out 0 q 3 w0 (.returned v) w
  | v :: _ :: _, w => ∃ (x : Int) (q5 : Nat) (er5 : Int) (w9 : World), Ending.returned v = .returned (.int .i64 x) ∧ (0 ≤ x ∧ x < 2 ^ 3 ∧ WkAt L R G bs most w9 q5 vo out er5 ∧ Chg (FiP R G vo) w0 w9 ∧ ((0 : Int) ≠ 0 → er5 = 0) ∧ ((0 : Int) = 0 → ∀ y, tk bs q 3 = some y → x = y ∧ q5 = q + 3 ∧ er5 = 0) ∧ ((0 : Int) = 0 → tk bs q 3 = none → x = 0 ∧ q5 = q ∧ er5 = 4)) ∧ w = w9.setCell ⟨gF, ok, none⟩ (.int .i64 x)
section
variable {L R G most q gF ok : Nat} {bs out own : List Int} {w0 w1 : World} {vo : Value} {x5 : Int} {q5 : Nat} {er5 : Int} {P Q : Prop}
theorem JTk.cell {v : Value} {PO k : Nat} (h : TkPost L R G bs most vo out 0 q 3 w0 (.returned v) w1) (hl : PO < w0.heap.size) (hf : ¬ FiP R G vo PO) : w1.cell? ⟨PO, k, none⟩ = w0.cell? ⟨PO, k, none⟩ := by
  obtain ⟨_, _, _, _, _, _, _, hc, _⟩ := h
  exact World.cell?_of_block (hc.block PO hl hf)
theorem JTk.some5 {B : Nat} (h : 0 ≤ x5 ∧ x5 < 2 ^ 3 ∧ WkAt L R G bs most w1 q5 vo out er5 ∧ Chg (FiP R G vo) w0 w1 ∧ P) (hr : RowI 3 .i64 B w0 gF 19 19 own) (hf : ¬ FiP R G vo gF) (hok : ok < 19) : ∃ v0, w1.cell? ⟨gF, ok, none⟩ = some v0 :=
  RowI.someCell (hr.chgS h.2.2.2.1 hf) hok
theorem JTk.free5 {B : Nat} (h : 0 ≤ x5 ∧ x5 < 2 ^ 3 ∧ WkAt L R G bs most w1 q5 vo out er5 ∧ Chg (FiP R G vo) w0 w1 ∧ P) (hr : RowI 3 .i64 B w0 gF 19 19 own) (hf : ¬ FiP R G vo gF) (ok : Nat) : w1.frozen? ⟨gF, ok, none⟩ = false :=
  RowI.frozen (hr.chgS h.2.2.2.1 hf) ok
end
/-- How many lengths there are, by the cell. -/
def rowAt (w : World) (lb : Nat) : Nat := match w.cell? ⟨lb, 0, none⟩ with
  | some (.slice _ n _) => n
  | _ => 0
theorem RpAt.rowAt {L R G most p lb : Nat} {bs out own o1 : List Int} {w w' : World} {vo v : Value} {A : Option Addr} {er : Int} (h : RpAt L R G bs most vo out w A own lb v o1 p er w') : rowAt w' lb = o1.length := by
  unfold Go.Proofs.Ytoeipgbnjcgbjaa.rowAt
  rw [h.cel.cell 0 (by decide)]
  obtain ⟨A, c, e⟩ := OwnS.shape h.row
  rw [e]
/-- What lengths leaves. -/
def LgPost (L R G : Nat) (bs : List Int) (most : Nat) (vo : Value) (out : List Int) (r : Int × Nat × List Int × List Int) (w : World) (e : Ending) (w' : World) : Prop :=
  ∃ v1 v2 p', e = .returned (.tuple #[v1, v2]) ∧ WkAt L R G bs most w' p' vo out r.1 ∧ Chg (FiP R G vo) w w' ∧
    (r.1 = 0 → p' = r.2.1 ∧ (∃ A1 c1 A2 c2, v1 = .slice A1 r.2.2.1.length c1 ∧ v2 = .slice A2 r.2.2.2.length c2 ∧ LenIn R G vo w' A1 r.2.2.1 ∧ LenIn R G vo w' A2 r.2.2.2))
theorem lg_err {L R G : Nat} {bs : List Int} {most : Nat} {vo : Value} {out : List Int} {r : Int × Nat × List Int × List Int} {w w' : World} {x : Int} {p : Nat} {v1 v2 : Value} (h : r.1 = x) (hx : x ≠ 0) (hI : WkAt L R G bs most w' p vo out x) (hC : Chg (FiP R G vo) w w') : LgPost L R G bs most vo out r w (.returned (.tuple #[v1, v2])) w' :=
  ⟨v1, v2, p, rfl, by rw [h]; exact hI, hC, fun e => absurd (h.symm.trans e) hx⟩
theorem whole_cost {xs : List Int} {few : Bool} (hb : cntB xs = true) (h : wholeB xs few = true) : costs xs ≤ 32768 := by
  unfold wholeB at h
  rw [Bool.or_eq_true] at h
  rcases h with h | h
  · unfold complete at h
    rw [hb, Bool.true_and] at h
    have : costs xs = 32768 := by simpa using h
    omega
  · rw [hb, Bool.and_true, Bool.and_eq_true, fewB_eq, Bool.and_eq_true] at h
    have h1 := costs_one xs hb h.2.1
    have h2 : nPos xs < 2 := of_decide_eq_true h.2.2
    omega
theorem cntB_take {xs : List Int} (h : cntB xs = true) (n : Nat) : cntB (xs.take n) = true := by
  show (xs.take n).all okLen = true
  rw [List.all_eq_true]
  exact fun x hx => List.all_eq_true.1 (show xs.all okLen = true from h) x (List.mem_of_mem_take hx)
theorem cntB_drop {xs : List Int} (h : cntB xs = true) (n : Nat) : cntB (xs.drop n) = true := by
  show (xs.drop n).all okLen = true
  rw [List.all_eq_true]
  exact fun x hx => List.all_eq_true.1 (show xs.all okLen = true from h) x (List.mem_of_mem_drop hx)
theorem own_cnt {bs : List Int} (hb : Bytes bs) (p : Nat) : ∀ k, k ≤ 19 → cntB (ownL bs p k) = true := by
  intro k
  induction k with
  | zero => intro _; rfl
  | succ k ih =>
    intro hk
    have ht := takeN_le bs (p + 3 * k) 3
    show ((ownL bs p k).set (orderL.getD k 0) (takeN bs (p + 3 * k) 3)).all okLen = true
    rw [List.all_eq_true]
    intro x hx
    rcases List.mem_or_eq_of_mem_set hx with hx | hx
    · exact List.all_eq_true.1 (show (ownL bs p k).all okLen = true from ih (by omega)) x hx
    · rw [hx]
      exact (okLen_iff _).2 ⟨ht.1, by have := ht.2; omega⟩
set_option maxRecDepth 100000 in
set_option maxHeartbeats 16000000 in
theorem wLengths_any (L R G most p : Nat) (bs out : List Int) (w : World) (vo : Value) (h : WkAt L R G bs most w p vo out 0) :
    Calls Try.prog 77 #[.pointer (some ⟨R, 0, none⟩)] w (LgPost L R G bs most vo out (dynM bs p) w) := by
  have HH := Lib.hid h
  have hfi := h.lt
  have HFI : Hid (∀ k, FiP R G vo k → k < w.heap.size) := Lib.hid fun k hk => (hfi k hk).2
  have hLw : L ≤ w.heap.size := by have := h.low; have := h.cel.blk; omega
  have HBY := Lib.hid h.hb
  have hp0 := h.hp
  obtain ⟨RR, hRR⟩ : ∃ RR, dynM bs p = RR := ⟨_, rfl⟩
  have HRR := Lib.hid hRR
  rw [hRR]
  have HT := Lib.hid (wTake_any L R G most p 5 bs out w vo 0 h (by decide))
  clear hRR h hfi
  go_enter Try.func77, Try.ntmps77
  go_wp2_with fail
  refine HT.out.mono ?_
  rintro e w1 ⟨a, p1, er1, rfl, ha0, ha1, hI1, hC1, _, hyes, hno⟩
  obtain ⟨a, rfl⟩ := Int.eq_ofNat_of_zero_le ha0
  have ha32 : a < 32 := by omega
  obtain ⟨m1, hm1⟩ : ∃ m1, a + 257 = m1 := ⟨_, rfl⟩
  have e1 : IntKind.i64.wrap ((a : Int) + 257) = (m1 : Int) := by rw [IntWalk.i64_in _ (by omega)]; omega
  have HI1 := Lib.hid hI1
  have HC1 := Lib.hid hC1
  have c3 := hI1.c3
  clear HT hI1 hC1 ha0 ha1
  cases h1 : tk bs p 5 with
  | none =>
    obtain ⟨hz, rfl, rfl⟩ := hno rfl h1
    have hm1' : m1 = 257 := by omega
    subst hm1'
    have HM : Hid (RR.1 = 4) := Lib.hid (by rw [← HRR.out]; exact dyn_a h1)
    clear hyes hno h1 hm1
    go_wp2
    go_ret2
    exact lg_err HM.out (by decide) HI1.out HC1.out
  | some a' =>
    obtain ⟨hav, rfl, rfl⟩ := hyes rfl a' h1
    have H1 : Hid (tk bs p 5 = some (a : Int)) := Lib.hid (by rw [hav]; exact h1)
    clear hyes hno h1 hav
    by_cases c1 : 286 < m1
    · have d1 : decide ((286 : Int) < (m1 : Int)) = true := decide_eq_true (by omega)
      have HM : Hid (RR.1 = 3) := Lib.hid (by rw [← HRR.out]; exact dyn_b H1.out (by omega))
      have HF := Lib.hid (wFail_any L R G most (p + 5) bs out w1 vo 0 3 HI1.out)
      rw [fstE_z] at HF
      clear hm1
      go_wp2_with fail
      refine HF.out.mono ?_
      rintro e w2 ⟨rfl, hI2, hC2⟩
      have HI2 := Lib.hid hI2
      have HC2 := Lib.hid (HC1.out.trans hC2 (fun k _ e => .inl e))
      have c3 := hI2.c3
      clear hI2 hC2 HF
      go_wp2
      go_ret2
      exact lg_err HM.out (by decide) HI2.out HC2.out
    · have d1 : decide ((286 : Int) < (m1 : Int)) = false := decide_eq_false (by omega)
      have HA1 : Hid (¬ (286 : Int) < (a : Int) + 257) := Lib.hid (by omega)
      have HM1 := Lib.hid hm1
      have HT := Lib.hid (wTake_any L R G most (p + 5) 5 bs out w1 vo 0 HI1.out (by decide))
      clear hm1
      go_wp2_with fail
      refine HT.out.mono ?_
      rintro e w2 ⟨b, p2, er2, rfl, hb0, hb1, hI2, hC2, _, hyes, hno⟩
      obtain ⟨b, rfl⟩ := Int.eq_ofNat_of_zero_le hb0
      have hb32 : b < 32 := by omega
      obtain ⟨m3, hm3⟩ : ∃ m3, b + 1 = m3 := ⟨_, rfl⟩
      have e2 : IntKind.i64.wrap ((b : Int) + 1) = (m3 : Int) := by rw [IntWalk.i64_in _ (by omega)]; omega
      have HI2 := Lib.hid hI2
      have HC2 := Lib.hid (HC1.out.trans hC2 (fun _ _ h => h))
      have c3 := hI2.c3
      clear HT hI2 hC2 hb0 hb1
      cases h2 : tk bs (p + 5) 5 with
      | none =>
        obtain ⟨hz, rfl, rfl⟩ := hno rfl h2
        have hm3' : m3 = 1 := by omega
        subst hm3'
        have HM : Hid (RR.1 = 4) := Lib.hid (by rw [← HRR.out]; exact dyn_c H1.out (by have := HA1.out; omega) h2)
        clear hyes hno h2 hm3
        go_wp2
        go_ret2
        exact lg_err HM.out (by decide) HI2.out HC2.out
      | some b' =>
        obtain ⟨hbv, rfl, rfl⟩ := hyes rfl b' h2
        have H2 : Hid (tk bs (p + 5) 5 = some (b : Int)) := Lib.hid (by rw [hbv]; exact h2)
        clear hyes hno h2 hbv
        by_cases c2 : 30 < m3
        · have d2 : decide ((30 : Int) < (m3 : Int)) = true := decide_eq_true (by omega)
          have HM : Hid (RR.1 = 3) := Lib.hid (by rw [← HRR.out]; exact dyn_d H1.out (by have := HA1.out; omega) H2.out (by omega))
          have HF := Lib.hid (wFail_any L R G most (p + 5 + 5) bs out w2 vo 0 3 HI2.out)
          rw [fstE_z] at HF
          clear hm3
          go_wp2_with fail
          refine HF.out.mono ?_
          rintro e w3 ⟨rfl, hI3, hC3⟩
          have HI3 := Lib.hid hI3
          have HC3 := Lib.hid (HC2.out.trans hC3 (fun k _ e => .inl e))
          have c3 := hI3.c3
          clear hI3 hC3 HF
          go_wp2
          go_ret2
          exact lg_err HM.out (by decide) HI3.out HC3.out
        · have d2 : decide ((30 : Int) < (m3 : Int)) = false := decide_eq_false (by omega)
          have HA2 : Hid (¬ (30 : Int) < (b : Int) + 1) := Lib.hid (by omega)
          have HM3 := Lib.hid hm3
          obtain ⟨i0, hi, hz0, hz1, hz2⟩ := info_parts Try.info_int
          clear hm3
          go_wp2_with (refine wpList_make_full _ rfl _ _ 121 rfl w.heap.size 3 i0 (.int .i64 0) 1 Try.underlying121 hi hz0 hz1 .i64 .i64 _ _ 19 rfl rfl rfl rfl (by rw [hz2]; omega) (by unfold maxLen; omega) (by have := HC2.out.size; simp; omega) ?_; intro w4 hown hgrow)
          have hrow4 : RowI 3 .i64 w.heap.size w4 (w2.heap.size + 1) 19 19 (ownL bs (p + 14) 0) := by
            have e : (Value.int IntKind.i64 0).cells = #[.int .i64 0] := rfl
            rw [e, toList_madeCells_one] at hown
            simpa [RowI, ownL] using hown
          have hB4 : Below w2.heap.size w2 w4 := ((Below.refl _ w2).alloc (Nat.le_refl _) _).grown hgrow (by simp) (by simp)
          have hord4 : Ints .i64 w4 (some ⟨w2.heap.size, 0, none⟩) (orderL.map fun (n : Nat) => (n : Int)) := (Ints.of_new (heap_alloc_new w2 _) rfl).below ((Below.refl _ _).grown hgrow (Nat.le_refl _) (by simp))
          have hs2 := HC2.out.size
          have HP0 := Lib.hid (LgAt.mk (HI2.out.below hB4) hord4 hrow4 (HC2.out.trans (Chg.of_below hB4) (fun _ _ h => h)) : LgAt L R G bs most vo out w (w2.heap.size + 1) w2.heap.size (ownL bs (p + 14) 0) (p + 5 + 5) 0 w4)
          have hPO : w.heap.size ≤ w2.heap.size := hs2
          have hne : w2.heap.size + 1 ≠ w2.heap.size := by omega
          clear hrow4 hB4 hord4 hown hgrow hi hz0 hz1 hz2 hs2 HI2 HC2 HI1 HC1 d1 d2 c3
          generalize w2.heap.size + 1 = gF at *
          generalize w2.heap.size = PO at *
          have HT := Lib.hid (wTake_any L R G most (p + 5 + 5) 4 bs out w4 vo 0 HP0.out.wk (by decide))
          go_wp2_with fail
          refine HT.out.mono ?_
          rintro e w5 ⟨c, p5, er5, rfl, hc0, hc1, hI5, hC5, _, hyes, hno⟩
          obtain ⟨c, rfl⟩ := Int.eq_ofNat_of_zero_le hc0
          have hc16 : c < 16 := by omega
          obtain ⟨cc, hcc⟩ : ∃ cc, c + 4 = cc := ⟨_, rfl⟩
          have e3 : IntKind.i64.wrap ((c : Int) + 4) = (cc : Int) := by rw [IntWalk.i64_in _ (by omega)]; omega
          have HP5 := Lib.hid (HP0.out.went HFI.out hPO hI5 hC5)
          have hcc2 : 4 ≤ cc ∧ cc ≤ 19 := by omega
          have HCC := Lib.hid hcc
          -- the error so far, or the number of the lengths' lengths
          have HST : Hid ((er5 ≠ 0 → RR.1 = er5) ∧ (er5 = 0 → tk bs (p + 10) 4 = some (c : Int) ∧ p5 = p + 14)) := Lib.hid (by
            rcases tk_some bs (p + 10) 4 with ⟨h3, _⟩ | ⟨h3, _⟩
            · obtain ⟨hv, h5, h6⟩ := hyes rfl _ h3
              exact ⟨fun h => absurd h6 h, fun _ => ⟨by rw [hv]; exact h3, by omega⟩⟩
            · obtain ⟨_, _, h6⟩ := hno rfl h3
              refine ⟨fun _ => ?_, fun h => absurd (h6.symm.trans h) (by decide)⟩
              rw [h6, ← HRR.out]
              exact dyn_e H1.out (by have := HA1.out; omega) H2.out (by have := HA2.out; omega) h3)
          have HR0 : Hid (∃ er, ∃ q, LgAt L R G bs most vo out w gF PO (if er = 0 then ownL bs (p + 14) 0 else ownL bs (p + 14) 0) q er w5 ∧ (er = 0 → q = p + 14 + 3 * 0 ∧ tk bs (p + 10) 4 = some (c : Int)) ∧ (er ≠ 0 → RR.1 = er)) := Lib.hid ⟨er5, p5, by split <;> exact HP5.out, fun h => ⟨(HST.out.2 h).2, (HST.out.2 h).1⟩, HST.out.1⟩
          clear hyes hno hI5 hC5 HT hc0 hc1 HP0 hcc HST HP5
          go_wp2
          clear e3
          go_loopw [9] (fun i wr => ∃ k : Nat, i = .int .i64 k ∧ k ≤ cc ∧ ∃ er q own, LgAt L R G bs most vo out w gF PO own q er wr ∧ (er = 0 → own = ownL bs (p + 14) k ∧ q = p + 14 + 3 * k ∧ tk bs (p + 10) 4 = some (c : Int)) ∧ (er ≠ 0 → RR.1 = er)) (fun i _ => cc - (intOf i).toNat)
          case atStart =>
            obtain ⟨er, q, h1, h2, h3⟩ := HR0.out
            exact ⟨0, rfl, Nat.zero_le _, er, q, _, h1, fun h => ⟨by split <;> rfl, (h2 h).1, (h2 h).2⟩, h3⟩
          case round =>
            clear HR0
            obtain ⟨k, rfl, hk, er, q, own, hP, hok, hbad⟩ := hrel
            have HP := Lib.hid hP
            have c3 := hP.wk.c3
            by_cases hlt : k < cc
            · have d3 : decide ((k : Int) < (cc : Int)) = true := decide_eq_true (by omega)
              by_cases he : er = 0
              · subst he
                obtain ⟨how, hqq, h3⟩ := hok rfl
                have ho := orderL_at k (by omega)
                have HI4 := Lib.hid hP.wk
                have HROW : Hid (RowI 3 .i64 w.heap.size wr.drew gF 19 19 own) := Lib.hid hP.row
                have HNF : Hid (¬ FiP R G vo gF) := Lib.hid fun hf => by have := HFI.out gF hf; have := (RowI.base hP.row).1; omega
                have HPOF : Hid (¬ FiP R G vo PO) := Lib.hid fun hf => by have := HFI.out PO hf; omega
                obtain ⟨b', o', e', hlt', hcell⟩ := hP.ord (by decide)
                injection e' with e'
                injection e' with e1' e2' _
                subst e1' e2'
                have HPOL : Hid (PO < wr.drew.heap.size) := Lib.hid hlt'
                have hok1 := ho.1
                have KO : Hid (wr.drew.cell? ⟨PO, k, none⟩ = some (.int .i64 (orderL.getD k 0 : Nat))) := Lib.hid (by
                  have := hcell k (by rw [List.length_map]; show k < 19; omega)
                  rw [Nat.zero_add] at this
                  refine this.trans ?_
                  congr 2
                  rw [List.getD_eq_getElem?_getD, List.getElem?_map, List.getD_eq_getElem?_getD, List.getElem?_eq_getElem (show k < orderL.length by show k < 19; omega)]
                  rfl)
                have HSET := Lib.hid (show (ownL bs (p + 14) k).set (orderL.getD k 0) (takeN bs (p + 14 + 3 * k) 3) = ownL bs (p + 14) (k + 1) from rfl)
                rw [← how, ← hqq] at HSET
                have HOW := Lib.hid how
                have HQQ := Lib.hid hqq
                have H3 := Lib.hid h3
                generalize orderL.getD k 0 = ok at *
                have HOK := Lib.hid hok1
                have s1 : (k : Int) < 19 := by omega
                have s2 : (ok : Int) < 19 := by omega
                have s3 : k < 19 := by omega
                clear hP ho hok hbad how hqq h3 hcell hlt' 
                go_wp2
                refine wp_region_ph (by kernel_rfl) [6, 8] [.span 0 1, .span 0 1, .span 0 1, .span 0 1, .span 0 1, .span 0 0, .phase 0, .span 1 1, .phase 1] [fun z9 => z9 = .slice (some ⟨gF, 0, none⟩) 19 19, fun z9 => z9 = .slice (some ⟨PO, 0, none⟩) 19 19, fun z9 => z9 = .int .i64 k, fun z9 => z9 = .pointer (some ⟨PO, k, none⟩), fun z9 => z9 = .int .i64 ok, fun z9 => z9 = .pointer (some ⟨R, 0, none⟩), fun v => ∃ x, v = .int .i64 x, fun z9 => z9 = .pointer (some ⟨gF, ok, none⟩), fun _ => True] (JTk L R G bs most vo out q gF ok wr.drew) (by kernel_rfl) (by kernel_rfl) (by kernel_rfl) (by kernel_rfl) (by kernel_rfl) (by kernel_rfl) rfl rfl (rfl) ?steps ?done
                case steps =>
                  refine ⟨?_, ?_, ?_, ?_, ?_, ?_, ?_, ?_, ?_, trivial⟩
                  · intro us au w1 k0 hlo hhi ha hd hst hI
                    have q7 := slot_far (t := 7) (v := .slice (some ⟨gF, 0, none⟩) 19 19) ha (by kernel_rfl) (by kernel_rfl)
                    have p7 := slot_norm q7
                    clear ha hd hst
                    exact StepI.pure (v := .slice (some ⟨gF, 0, none⟩) 19 19) rfl rfl (by go_simp) ⟨rfl, hI⟩
                  · intro us au w1 k1 hlo hhi ha hd hst hI
                    have q6 := slot_far (t := 6) (v := .slice (some ⟨PO, 0, none⟩) 19 19) ha (by kernel_rfl) (by kernel_rfl)
                    have p6 := slot_norm q6
                    clear ha hd hst
                    exact StepI.pure (v := .slice (some ⟨PO, 0, none⟩) 19 19) rfl rfl (by go_simp) ⟨rfl, hI⟩
                  · intro us au w1 k2 hlo hhi ha hd hst hI
                    have q9 := slot_far (t := 9) (v := .int .i64 k) ha (by kernel_rfl) (by kernel_rfl)
                    have p9 := slot_norm q9
                    clear ha hd hst
                    exact StepI.pure (v := .int .i64 k) rfl rfl (by go_simp) ⟨rfl, hI⟩
                  · intro us au w1 k3 hlo hhi ha hd hst hI
                    have e1 := hd 1 _ (by kernel_rfl) rfl
                    have e2 := hd 2 _ (by kernel_rfl) rfl
                    have q55 := slot_at (t := 55) 1 ha (by kernel_rfl) (by kernel_rfl) (by kernel_rfl) e1
                    have p55 := slot_norm q55
                    have q56 := slot_at (t := 56) 2 ha (by kernel_rfl) (by kernel_rfl) (by kernel_rfl) e2
                    have p56 := slot_norm q56
                    clear ha hd hst
                    exact StepI.pure (v := .pointer (some ⟨PO, k, none⟩)) rfl rfl (by go_simp) ⟨rfl, hI⟩
                  · intro us au w1 k4 hlo hhi ha hd hst hI
                    have e3 := hd 3 _ (by kernel_rfl) rfl
                    have q57 := slot_at (t := 57) 3 ha (by kernel_rfl) (by kernel_rfl) (by kernel_rfl) e3
                    have p57 := slot_norm q57
                    clear ha hd hst
                    have cl : w1.cell? ⟨PO, k, none⟩ = some (.int .i64 ok) := by
                      rcases (show k4 = 0 ∨ k4 = 1 by omega) with rfl | rfl
                      · rw [show w1 = wr.drew from hI]; exact KO.out
                      · exact (JTk.cell hI HPOL.out HPOF.out).trans KO.out
                    exact StepI.pure (v := .int .i64 ok) rfl rfl (by go_simp) ⟨rfl, hI⟩
                  · intro us au w1 k5 hlo hhi ha hd hst hI
                    obtain rfl : k5 = 0 := by omega
                    have q0 := slot_far (t := 0) (v := .pointer (some ⟨R, 0, none⟩)) ha (by kernel_rfl) (by kernel_rfl)
                    have p0 := slot_norm q0
                    clear ha hd hst
                    exact StepI.pure (v := .pointer (some ⟨R, 0, none⟩)) rfl rfl (by go_simp) ⟨rfl, hI⟩
                  · intro us au w1 ha hd hst hI
                    have e5 := hd 5 _ (by kernel_rfl) rfl
                    have q59 := slot_at (t := 59) 5 ha (by kernel_rfl) (by kernel_rfl) (by kernel_rfl) e5
                    have p59 := slot_norm q59
                    clear ha hd hst
                    have hw1 : w1 = wr.drew := hI
                    subst hw1
                    refine StepI.call (f := 73) (args := #[.pointer (some ⟨R, 0, none⟩), .int .i64 3]) rfl rfl (by go_simp) ?_
                    refine (wTake_any L R G most q 3 bs out wr.drew vo 0 (HI4.out.drewN 1) (by decide)).mono ?_
                    rintro e w5 ht5
                    obtain ⟨x5, q5, er5, rfl, ht5⟩ := ht5
                    exact ⟨_, rfl, ⟨x5, rfl⟩, x5, q5, er5, rfl, ht5⟩
                  · intro us au w1 k7 hlo hhi ha hd hst hI
                    obtain rfl : k7 = 1 := by omega
                    have e0 := hd 0 _ (by kernel_rfl) rfl
                    have e4 := hd 4 _ (by kernel_rfl) rfl
                    have q54 := slot_at (t := 54) 0 ha (by kernel_rfl) (by kernel_rfl) (by kernel_rfl) e0
                    have p54 := slot_norm q54
                    have q58 := slot_at (t := 58) 4 ha (by kernel_rfl) (by kernel_rfl) (by kernel_rfl) e4
                    have p58 := slot_norm q58
                    clear ha hd hst
                    exact StepI.pure (v := .pointer (some ⟨gF, ok, none⟩)) rfl rfl (by go_simp) ⟨rfl, hI⟩
                  · intro us au w1 ha hd hst hI
                    have e7 := hd 7 _ (by kernel_rfl) rfl
                    obtain ⟨x6, e6⟩ := hd 6 _ (by kernel_rfl) rfl
                    have q61 := slot_at (t := 61) 7 ha (by kernel_rfl) (by kernel_rfl) (by kernel_rfl) e7
                    have p61 := slot_norm q61
                    have q60 := slot_at (t := 60) 6 ha (by kernel_rfl) (by kernel_rfl) (by kernel_rfl) (Eq.refl (us 6))
                    have p60 := slot_norm q60
                    clear ha hd hst
                    obtain ⟨x5, q5, er5, hv5, ht5⟩ := hI
                    injection hv5 with hv5
                    rw [hv5] at p60
                    obtain ⟨v0, t0⟩ := JTk.some5 ht5 HROW.out HNF.out HOK.out
                    have f0 := JTk.free5 ht5 HROW.out HNF.out ok
                    exact StepI.stored (w' := w1.setCell ⟨gF, ok, none⟩ (.int .i64 x5)) rfl rfl (by go_simp) ⟨trivial, x5, q5, er5, w1, congrArg Ending.returned hv5, ht5, rfl⟩
                case done =>
                  intro us w1 hI hd
                  obtain ⟨x5, q5, er5, w9, hv5, hT5, hw9⟩ := hI
                  obtain ⟨_, _, hI9, hC9, _, hy5, hn5⟩ := hT5
                  have HPw := HP.out.went HFI.out hPO hI9 (((Chg.refl (FiP R G vo) wr).drew).trans hC9 (fun _ _ h => h))
                  have HPW := Lib.hid (HPw.put HFI.out hLw hne ok x5)
                  rw [← hw9] at HPW
                  have HNX : Hid ((er5 = 0 → own.set ok x5 = ownL bs (p + 14) (k + 1) ∧ q5 = p + 14 + 3 * (k + 1) ∧ tk bs (p + 10) 4 = some (c : Int)) ∧ (er5 ≠ 0 → RR.1 = er5)) := Lib.hid (by
                    rcases tk_some bs q 3 with ⟨h4, _⟩ | ⟨h4, hl4⟩
                    · obtain ⟨h5, h6, h7⟩ := hy5 rfl _ h4
                      refine ⟨fun _ => ⟨by rw [h5]; exact HSET.out, by rw [h6, HQQ.out]; omega, H3.out⟩, fun h => absurd h7 h⟩
                    · obtain ⟨h5, h6, h7⟩ := hn5 rfl h4
                      refine ⟨fun h => absurd (h7.symm.trans h) (by decide), fun _ => ?_⟩
                      rw [h7, ← HRR.out]
                      exact dyn_f H1.out (by have := HA1.out; omega) H2.out (by have := HA2.out; omega) H3.out (by have := HQQ.out; have := HCC.out; simp only [Int.toNat_natCast]; omega))
                  clear hd hv5 hI9 hC9 hy5 hn5 hw9 HPw HI4 HROW KO c3
                  simp only [putAll]
                  go_simp
                  go_wp2
                  go_roundw
                  case rel => exact ⟨k + 1, by go_num, by omega, er5, q5, _, HPW.out, HNX.out.1, HNX.out.2⟩
                  case measure => simp [intOf]; omega
              · have d4 : (er == 0) = false := by simpa using he
                have d5 : (er != 0) = true := by simpa using he
                have HB := Lib.hid (hbad he)
                clear hP hok hbad
                go_wp2
                go_ret2
                exact lg_err HB.out he HP.out.wk HP.out.chg
            · have d3 : decide ((k : Int) < (cc : Int)) = false := decide_eq_false (by omega)
              by_cases he : er = 0
              · subst he
                obtain ⟨how, hqq, h3⟩ := hok rfl
                obtain rfl : k = cc := by omega
                have hq8 := hP.wk.hp
                have hcnt := own_cnt HBY.out (p + 14) k (by omega)
                have hln := ownL_len bs (p + 14) k
                rw [← how] at hcnt hln
                obtain ⟨nn, hnn⟩ : ∃ nn, m1 + b + 1 = nn := ⟨_, rfl⟩
                have e4 : IntKind.i64.wrap ((m1 : Int) + (m3 : Int)) = (nn : Int) := by rw [IntWalk.i64_in _ (by have := HM3.out; omega)]; have := HM3.out; omega
                have hn3 : nn ≤ 316 := by have := HM3.out; omega
                have hn4 : 257 ≤ m1 ∧ m1 < nn := by have := HM1.out; omega
                have HTL := Lib.hid (HRR.out.symm.trans (dyn_tailN (O := own) (L := lensM bs own nn (nn + 1) q []) H1.out H2.out h3 HM1.out hnn HCC.out hqq.symm (by omega) (by have := HM3.out; omega) hq8 how.symm rfl))
                have HCM := Lib.hid (completeR_any (some ⟨gF, 0, none⟩) 19 own wr (RowI.ints hP.row) (by omega))
                rw [hln] at HCM
                have hgw := (RowI.base hP.row).2
                have hgl := (RowI.base hP.row).1
                have hgi := RowI.ints hP.row
                have hws := hP.chg.size
                clear hok hbad how hqq h3 hq8 hnn
                go_wp2_with fail
                refine HCM.out.mono ?_
                rintro e w6 ⟨rfl, rfl⟩
                clear HCM
                cases hco : complete own with
                | false =>
                  have HM : Hid (RR.1 = 3) := Lib.hid (by rw [HTL.out, if_pos hco])
                  have HF := Lib.hid (wFail_any L R G most q bs out wr vo 0 3 HP.out.wk)
                  rw [fstE_z] at HF
                  clear HTL hco hP
                  go_wp2_with fail
                  refine HF.out.mono ?_
                  rintro e w7 ⟨rfl, hI7, hC7⟩
                  have HI7 := Lib.hid (hI7.below ((Below.refl _ _).alloc (Nat.le_refl _) (.cells #[.slice none 0 0] 121)))
                  have HC7 := Lib.hid ((HP.out.chg.trans hC7 (fun k _ e => .inl e)).alloc (.cells #[.slice none 0 0] 121))
                  have c3 := HI7.out.c3
                  clear hI7 hC7 HF d3
                  go_wp2
                  generalize hw8 : w7.alloc (.cells #[.slice none 0 0] 121) = w8 at *
                  clear hw8
                  go_loopw [] (fun wx => wx = w8) (fun _ => 0)
                  case atStart => rfl
                  case round =>
                    subst hrel
                    go_wp2
                    go_ret2
                    exact lg_err HM.out (by decide) HI7.out HC7.out
                | true =>
                  have HTL2 := Lib.hid (HTL.out.trans (if_neg (by rw [hco]; decide)))
                  have hcost : costs own ≤ 32768 := by
                    unfold complete at hco
                    rw [hcnt, Bool.true_and] at hco
                    have : costs own = 32768 := by simpa using hco
                    omega
                  obtain ⟨lb, hlb⟩ : ∃ lb, wr.heap.size = lb := ⟨_, rfl⟩
                  have HC := Lib.hid (RpC.mk HFI.out (by omega) (fun b o e => by injection e with e; injection e with e1 _ _; omega) hcnt hcost hln : RpC R G vo w (some ⟨gF, 0, none⟩) own lb)
                  have hB7 : Below wr.heap.size wr (wr.alloc (.cells #[.slice none 0 0] 121)) := (Below.refl _ _).alloc (Nat.le_refl _) _
                  have hcel7 : Cel (wr.alloc (.cells #[.slice none 0 0] 121)) lb 121 1 (fun _ => .slice none 0 0) := by
                    rw [← hlb]
                    exact Cel.new wr _ #[.slice none 0 0] _ (fun i hi => by match i, hi with | 0, _ => rfl)
                  have HR0 := Lib.hid (RpAt.mk (HP.out.wk.below hB7) (hgi.below hB7) hcel7 (OwnS.nil _ _ _ _) (HP.out.chg.alloc _) (fun b o e => by intro h; cases h) : RpAt L R G bs most vo out w (some ⟨gF, 0, none⟩) own lb (.slice none 0 0) [] q 0 (wr.alloc (.cells #[.slice none 0 0] 121)))
                  obtain ⟨LS, hLS⟩ : ∃ LS, lensM bs own nn (nn + 1) q [] = LS := ⟨_, rfl⟩
                  rw [hLS] at HTL2
                  have HLS := Lib.hid hLS
                  clear hLS HTL hco hP hB7 hcel7 hcost hcnt hgi d3
                  go_wp2
                  clear hlb
                  go_loopw [] (fun wx => ∃ v o1 p1 er, RpAt L R G bs most vo out w (some ⟨gF, 0, none⟩) own lb v o1 p1 er wx ∧ (er = 0 → cntB o1 = true ∧ o1.length ≤ nn ∧ ∃ f, LS = lensM bs own nn f p1 o1 ∧ nn < f + o1.length) ∧ (er ≠ 0 → LS.1 = er)) (fun wx => errAt wx R * (nn - rowAt wx lb + 1))
                  case atStart => exact ⟨_, [], q, 0, HR0.out, fun _ => ⟨rfl, Nat.zero_le _, nn + 1, HLS.out.symm, by simp⟩, fun h => absurd rfl h⟩
                  case round =>
                    clear HR0 c3
                    obtain ⟨v, o1, p1, er, hP4, hok, hbad⟩ := hrel
                    have HP4 := Lib.hid hP4
                    have c3 := hP4.wk.c3
                    have HRA := Lib.hid hP4.rowAt
                    have HEA := Lib.hid hP4.wk.errAt
                    obtain ⟨A4, c4, hv4⟩ := OwnS.shape hP4.row
                    subst hv4
                    have kl : wr.cell? ⟨lb, 0, none⟩ = some (.slice A4 o1.length c4) := hP4.cel.cell 0 (by decide)
                    by_cases he : er = 0
                    · subst he
                      obtain ⟨hcb, hle, f, hLS, hf⟩ := hok rfl
                      by_cases hlt : o1.length < nn
                      · have d4 : decide ((o1.length : Int) < (nn : Int)) = true := decide_eq_true (by omega)
                        obtain ⟨f', rfl⟩ : ∃ f', f = f' + 1 := ⟨f - 1, by omega⟩
                        have HST := Lib.hid (hLS.trans (lensM_step bs own nn f' p1 o1 hlt))
                        have HOKS := Lib.hid (fun h => stepM_ok (bs := bs) (own := own) (n := nn) (p := p1) (out := o1) h hlt hcb)
                        have HRP := Lib.hid (wRepeat_any L R G most p1 lb nn 19 (some ⟨gF, 0, none⟩) bs out own o1 w wr vo (.slice A4 o1.length c4) HC.out hLw HP4.out hlt (by omega))
                        clear hok hbad hLS hP4
                        go_wp2_with fail
                        refine HRP.out.mono ?_
                        rintro e w6 ⟨rfl, v', o', p', hP6, heq⟩
                        have HP6 := Lib.hid hP6
                        have HRA6 := Lib.hid hP6.rowAt
                        have HEA6 := Lib.hid hP6.wk.errAt
                        clear hP6 HRP
                        generalize stepM bs own nn p1 o1 = S at *
                        obtain ⟨es, ps, os⟩ := S
                        simp only at HST HOKS HP6 heq HEA6
                        by_cases hes : es = 0
                        · subst hes
                          obtain ⟨rfl, rfl⟩ := heq rfl
                          have HS2 := Lib.hid (HST.out.trans (if_neg (fun h => h rfl)))
                          obtain ⟨k1, k2, k3⟩ := HOKS.out rfl
                          go_wp2
                          go_roundw
                          case rel => exact ⟨v', o', p', 0, HP6.out, fun _ => ⟨k3, k2, f', HS2.out, by omega⟩, fun h => absurd rfl h⟩
                          case measure =>
                            rw [HRA6.out, HRA.out, HEA6.out, HEA.out, if_pos (by trivial)]
                            omega
                        · have HS2 := Lib.hid (HST.out.trans (if_pos hes))
                          go_wp2
                          go_roundw
                          case rel => exact ⟨v', o', p', es, HP6.out, fun h => absurd h hes, fun _ => by rw [HS2.out]⟩
                          case measure =>
                            rw [HEA6.out, HEA.out, HRA.out, if_neg hes, if_pos (by trivial)]
                            omega
                      · have d4 : decide ((o1.length : Int) < (nn : Int)) = false := decide_eq_false (by omega)
                        have hlen : o1.length = nn := by omega
                        have hLS2 : LS = (0, p1, o1) := by
                          rw [hLS]
                          cases f with
                          | zero => rfl
                          | succ f => rw [lensM, if_pos (by omega)]
                        have HT3 : Hid (RR = if o1.getD 256 0 = 0 then (3, p, [], []) else if wholeB (o1.take m1) false = false then (3, p, [], []) else if wholeB (o1.drop m1) true = false then (3, p, [], []) else (0, p1, o1.take m1, o1.drop m1)) := Lib.hid (HTL2.out.trans (by rw [hLS2, if_neg (fun h => h rfl)]))
                        have hcap := OwnS.cap hP4.row
                        have hint := OwnS.ints hP4.row
                        have hrl := hP4.row.low
                        obtain ⟨b9, o9, rfl, hb9, hcell9⟩ := hint (by omega)
                        have k256 := hcell9 256 (by omega)
                        have hbw := hrl b9 o9 rfl
                        have HIA : Hid (Ints .i64 wr (some ⟨b9, o9, none⟩) (o1.take m1)) := Lib.hid fun _ => ⟨b9, o9, rfl, hb9, fun j hj => by
                          rw [List.length_take] at hj
                          rw [hcell9 j (by omega), List.getD_eq_getElem?_getD, List.getD_eq_getElem?_getD, List.getElem?_take, if_pos (by omega)]⟩
                        have HIB : Hid (Ints .i64 wr (some ⟨b9, o9 + m1, none⟩) (o1.drop m1)) := Lib.hid fun _ => ⟨b9, o9 + m1, rfl, hb9, fun j hj => by
                          rw [List.length_drop] at hj
                          rw [Nat.add_assoc, hcell9 (m1 + j) (by omega), List.getD_eq_getElem?_getD, List.getD_eq_getElem?_getD, List.getElem?_drop]⟩
                        have HLA : Hid ((o1.take m1).length = m1) := Lib.hid (by rw [List.length_take]; omega)
                        have HLB : Hid ((o1.drop m1).length = o1.length - m1) := Lib.hid List.length_drop
                        have HNF : Hid (¬ FiP R G vo b9) := Lib.hid fun hf => by have := HFI.out b9 hf; omega
                        have HCT := Lib.hid hcb
                        have hcA : cntB (o1.take m1) = true := cntB_take hcb m1
                        have hcB : cntB (o1.drop m1) = true := cntB_drop hcb m1
                        have HOKE : Hid (wholeB (o1.take m1) false = true → wholeB (o1.drop m1) true = true → LenIn R G vo wr (some ⟨b9, o9, none⟩) (o1.take m1) ∧ LenIn R G vo wr (some ⟨b9, o9 + m1, none⟩) (o1.drop m1)) := Lib.hid fun h1 h2 =>
                          ⟨⟨HIA.out, fun _ b o e => by injection e with e; injection e with e1 _ _; rw [← e1]; exact HNF.out, hcA, whole_cost hcA h1, by rw [HLA.out]; omega⟩, ⟨HIB.out, fun _ b o e => by injection e with e; injection e with e1 _ _; rw [← e1]; exact HNF.out, hcB, whole_cost hcB h2, by rw [HLB.out]; omega⟩⟩
                        have HWA : Hid (wholeB (o1.take m1) false = complete (o1.take m1)) := Lib.hid (wholeB_false _)
                        have HWB : Hid (wholeB (o1.drop m1) true = (complete (o1.drop m1) || fewB (o1.drop m1))) := Lib.hid (by unfold wholeB; rw [hcB]; simp)
                        have HCA := Lib.hid (by have := completeR_any (some ⟨b9, o9, none⟩) c4 (o1.take m1) wr HIA.out (by rw [HLA.out]; omega); rwa [HLA.out] at this : Calls Try.prog 97 #[.slice (some ⟨b9, o9, none⟩) m1 c4] wr fun e w' => e = .returned (.bool (complete (o1.take m1))) ∧ wr = w')
                        have HCB := Lib.hid (by have := completeR_any (some ⟨b9, o9 + m1, none⟩) (c4 - m1) (o1.drop m1) wr HIB.out (by rw [HLB.out]; omega); rwa [HLB.out] at this : Calls Try.prog 97 #[.slice (some ⟨b9, o9 + m1, none⟩) (o1.length - m1) (c4 - m1)] wr fun e w' => e = .returned (.bool (complete (o1.drop m1))) ∧ wr = w')
                        have HSI := Lib.hid (by have := wSingle_any (some ⟨b9, o9 + m1, none⟩) (c4 - m1) (o1.drop m1) wr HIB.out hcB (by rw [HLB.out]; omega); rwa [HLB.out] at this : Calls Try.prog 99 #[.slice (some ⟨b9, o9 + m1, none⟩) (o1.length - m1) (c4 - m1)] wr fun e w' => e = .returned (.bool (fewB (o1.drop m1))) ∧ wr = w')
                        have t1 : (m1 : Int) ≤ (o1.length : Int) := by omega
                        have t2 : (o1.length : Int) ≤ (c4 : Int) := by omega
                        have t3 : (m1 : Int) ≤ (c4 : Int) := by omega
                        have t4 : ¬ c4 = m1 := by omega
                        have t5 : (256 : Int) < (m1 : Int) := by omega
                        clear hok hbad hP4 hLS hLS2 hcell9 hint hrl hcb hcA hcB hcap hle hlen
                        by_cases hz : o1.getD 256 0 = 0
                        · have HME : Hid (RR.1 = 3) := Lib.hid (by rw [HT3.out, if_pos hz])
                          rw [hz] at k256
                          clear hz
                          have HF := Lib.hid (wFail_any L R G most p1 bs out wr vo 0 3 HP4.out.wk)
                          rw [fstE_z] at HF
                          go_wp2_with fail
                          refine HF.out.mono ?_
                          rintro e w8 ⟨rfl, hI8, hC8⟩
                          have HI8 := Lib.hid hI8
                          have HC8 := Lib.hid (HP4.out.chg.trans hC8 (fun k _ e => .inl e))
                          clear hI8 hC8 HF
                          go_wp2
                          go_ret2
                          exact lg_err HME.out (by decide) HI8.out HC8.out
                        · have d7 : (o1.getD 256 0 == 0) = false := by simpa using hz
                          have HT4 := Lib.hid (HT3.out.trans (if_neg hz))
                          clear hz
                          generalize o1.getD 256 0 = x256 at *
                          go_wp2_with fail
                          refine HCA.out.mono ?_
                          rintro e w6 ⟨rfl, rfl⟩
                          clear HCA
                          cases hA : complete (o1.take m1) with
                          | false =>
                            have HME : Hid (RR.1 = 3) := Lib.hid (by rw [HT4.out, if_pos (by rw [HWA.out, hA])])
                            clear hA
                            have HF := Lib.hid (wFail_any L R G most p1 bs out wr vo 0 3 HP4.out.wk)
                            rw [fstE_z] at HF
                            go_wp2_with fail
                            refine HF.out.mono ?_
                            rintro e w8 ⟨rfl, hI8, hC8⟩
                            have HI8 := Lib.hid hI8
                            have HC8 := Lib.hid (HP4.out.chg.trans hC8 (fun k _ e => .inl e))
                            clear hI8 hC8 HF
                            go_wp2
                            go_ret2
                            exact lg_err HME.out (by decide) HI8.out HC8.out
                          | true =>
                            have HT5 := Lib.hid (HT4.out.trans (if_neg (by rw [HWA.out, hA]; decide)))
                            have HWA2 := Lib.hid (HWA.out.trans hA)
                            clear hA
                            go_wp2_with fail
                            refine HCB.out.mono ?_
                            rintro e w6 ⟨rfl, rfl⟩
                            clear HCB
                            cases hB : complete (o1.drop m1) with
                            | true =>
                              have HWB2 := Lib.hid (HWB.out.trans (by rw [hB]; rfl : _ = true))
                              have HME := Lib.hid (HT5.out.trans (if_neg (by rw [HWB2.out]; decide)))
                              clear hB
                              go_wp2
                              go_ret2
                              refine ⟨_, _, p1, rfl, by rw [HME.out]; exact HP4.out.wk, HP4.out.chg, fun _ => ?_⟩
                              rw [HME.out]
                              exact ⟨rfl, some ⟨b9, o9, none⟩, c4, some ⟨b9, o9 + m1, none⟩, c4 - m1, by simp only; rw [HLA.out]; rfl, by simp only; rw [HLB.out]; rfl, HOKE.out HWA2.out HWB2.out⟩
                            | false =>
                              go_wp2_with fail
                              refine HSI.out.mono ?_
                              rintro e w6 ⟨rfl, rfl⟩
                              clear HSI
                              cases hS : fewB (o1.drop m1) with
                              | true =>
                                have HWB2 := Lib.hid (HWB.out.trans (by rw [hB, hS]; rfl : _ = true))
                                have HME := Lib.hid (HT5.out.trans (if_neg (by rw [HWB2.out]; decide)))
                                clear hB hS
                                go_wp2
                                go_ret2
                                refine ⟨_, _, p1, rfl, by rw [HME.out]; exact HP4.out.wk, HP4.out.chg, fun _ => ?_⟩
                                rw [HME.out]
                                exact ⟨rfl, some ⟨b9, o9, none⟩, c4, some ⟨b9, o9 + m1, none⟩, c4 - m1, by simp only; rw [HLA.out]; rfl, by simp only; rw [HLB.out]; rfl, HOKE.out HWA2.out HWB2.out⟩
                              | false =>
                                have HME : Hid (RR.1 = 3) := Lib.hid (by rw [HT5.out, if_pos (by rw [HWB.out, hB, hS]; rfl)])
                                clear hB hS
                                have HF := Lib.hid (wFail_any L R G most p1 bs out wr vo 0 3 HP4.out.wk)
                                rw [fstE_z] at HF
                                go_wp2_with fail
                                refine HF.out.mono ?_
                                rintro e w8 ⟨rfl, hI8, hC8⟩
                                have HI8 := Lib.hid hI8
                                have HC8 := Lib.hid (HP4.out.chg.trans hC8 (fun k _ e => .inl e))
                                clear hI8 hC8 HF
                                go_wp2
                                go_ret2
                                exact lg_err HME.out (by decide) HI8.out HC8.out
                    · have d5 : (er == 0) = false := by simpa using he
                      have d6 : (er != 0) = true := by simpa using he
                      have HM : Hid (RR.1 = er) := Lib.hid (by
                        have h1 := hbad he
                        rw [HTL2.out, if_pos (by rw [h1]; exact he)]
                        exact h1)
                      clear hok hbad hP4
                      go_wp2
                      go_ret2
                      exact lg_err HM.out he HP4.out.wk HP4.out.chg
              · have d5 : (er != 0) = true := by simpa using he
                have HB := Lib.hid (hbad he)
                clear hP hok hbad
                go_wp2
                go_ret2
                exact lg_err HB.out he HP.out.wk HP.out.chg
end Go.Proofs.Ytoeipgbnjcgbjaa
/- The document's Inflate: Raw. -/
namespace Go.Proofs.Ytoeipgbnjcgbjaa
open Go.RowKit
set_option linter.unusedVariables false

theorem info_got : (Try.prog.info? 79).map (·.size) = some 3 := by kernel_rfl
theorem WkAt.placeAt {L R G most p : Nat} {bs out : List Int} {w : World} {vo : Value} {er : Int} (h : WkAt L R G bs most w p vo out er) : placeAt w G = p := by
  unfold Go.Proofs.Ytoeipgbnjcgbjaa.placeAt
  rw [h.rd.c1]
  simp
theorem takeN_12 (bs : List Int) (p : Nat) : takeN bs p 3 = takeN bs p 1 + 2 * takeN bs (p + 1) 2 := by
  have e1 : p + 1 + 0 = p + 1 := rfl
  have e2 : p + 1 + 1 = p + 2 := rfl
  simp only [takeN, e1, e2]
  omega
/-- Between the blocks. -/
def WhRel (L R G F : Nat) (bs : List Int) (most : Nat) (RR : Int × Nat × List Int) (w0 : World) (last : Value) (w' : World) : Prop :=
  ∃ (p : Nat) (out : List Int) (vo : Value) (er ln : Int), last = .int .i64 ln ∧ (ln = 0 ∨ ln = 1) ∧ WkAt L R G bs most w' p vo out er ∧ Below L w0 w' ∧
    (er = 0 → (ln = 0 ∧ ∃ f, RR = rawM F bs most f p out ∧ 8 * bs.length < f + p) ∨ (ln = 1 ∧ RR = (0, p, out))) ∧ (er ≠ 0 → RR.1 = er)
theorem wh_next {L R G F most p f' : Nat} {bs out : List Int} {vo : Value} {RR X : Int × Nat × List Int} {v1 : Int} {w0 w2 w3 : World} {e : Ending}
    (hm : RR = if X.1 ≠ 0 then X else if v1 = 1 then X else rawM F bs most f' X.2.1 X.2.2) (hup : X.1 = 0 → p + 3 ≤ X.2.1) (hv : v1 = 0 ∨ v1 = 1) (hp : p ≤ 8 * bs.length) (hf : 8 * bs.length < f' + 1 + p)
    (hI : WkAt L R G bs most w2 (p + 3) vo out 0) (hB : Below L w0 w2) (hw : WbPost L R G bs most vo X w2 e w3) :
    WhRel L R G F bs most RR w0 (.int .i64 v1) w3 ∧ errAt w3 R * (8 * bs.length + 1 - placeAt w3 G) < 1 * (8 * bs.length + 1 - p) := by
  obtain ⟨_, p', out', ⟨vo', hI', hC', _⟩, hok⟩ := hw
  have hB' := hB.trans (hI.belowL hC')
  have hEA := hI'.errAt
  have hPL := hI'.placeAt
  have hp' := hI'.hp
  by_cases h0 : X.1 = 0
  · obtain ⟨rfl, rfl⟩ := hok h0
    have hu := hup h0
    rw [if_neg (fun h => h h0)] at hm
    rw [h0] at hI'
    refine ⟨⟨X.2.1, X.2.2, vo', 0, v1, rfl, hv, hI', hB', fun _ => ?_, fun h => absurd rfl h⟩, ?_⟩
    · rcases hv with rfl | rfl
      · exact .inl ⟨rfl, f', by rw [hm, if_neg (by decide)], by omega⟩
      · refine .inr ⟨rfl, ?_⟩
        rw [hm, if_pos rfl]
        exact Prod.ext h0 rfl
    · rw [hEA, hPL, if_pos h0]
      omega
  · rw [if_pos h0] at hm
    refine ⟨⟨p', out', vo', X.1, v1, rfl, hv, hI', hB', fun h => absurd h h0, fun _ => by rw [hm]⟩, ?_⟩
    rw [hEA, if_neg h0]
    omega
/-- What the document's Raw leaves. -/
def GotPost (bs : List Int) (most : Nat) (r : Int × Nat × List Int) (w : World) (e : Ending) (w' : World) : Prop :=
  Below w.heap.size w w' ∧ (r.1 ≠ 0 → e = .returned (.agg #[.slice none 0 0, .int .i64 0, .int .i64 r.1])) ∧
    (r.1 = 0 → (∃ v, e = .returned (.agg #[v, .int .i64 (r.2.1 : Nat), .int .i64 0]) ∧ OwnS w' w.heap.size 5 1 v r.2.2.length (r.2.2.map (Value.int .u8))) ∧ r.2.2.length ≤ most ∧ r.2.1 ≤ bs.length ∧ Bytes r.2.2)
theorem got_no {bs : List Int} {most : Nat} {r : Int × Nat × List Int} {w w' : World} {x : Int} {y : Nat × List Int} (h : r = (x, y)) (hx : x ≠ 0) (hb : Below w.heap.size w w') : GotPost bs most r w (.returned (.agg #[.slice none 0 0, .int .i64 0, .int .i64 x])) w' := by
  subst h
  exact ⟨hb, fun _ => rfl, fun e => absurd e hx⟩
theorem got_ok {bs : List Int} {most : Nat} {r : Int × Nat × List Int} {w w' : World} {v : Value} {n : Nat} {o : List Int} (h : r = (0, n, o)) (hb : Below w.heap.size w w') (hv : OwnS w' w.heap.size 5 1 v o.length (o.map (Value.int .u8))) (h1 : o.length ≤ most) (h2 : n ≤ bs.length) (h3 : Bytes o) : GotPost bs most r w (.returned (.agg #[v, .int .i64 n, .int .i64 0])) w' := by
  subst h
  exact ⟨hb, fun e => absurd rfl e, fun _ => ⟨⟨v, rfl, hv⟩, h1, h2, h3⟩⟩
def gotZ (i : Nat) : Value := if i = 0 then .slice none 0 0 else if i = 1 then .int .i64 0 else .int .i64 0
set_option maxRecDepth 100000 in
set_option maxHeartbeats 16000000 in
theorem wRaw_any (A : Option Addr) (c F : Nat) (bs : List Int) (m : Int) (most : Nat) (w : World) (hI : Ints .u8 w A bs) (hb : Bytes bs) (hsz : bs.length ≤ 140737488351232) (hm : max m 0 = (most : Int)) (hmm : most ≤ 1000000) (hF1 : most < F) (hF2 : 8 * bs.length < F) :
    Calls Try.prog 44 #[.slice A bs.length c, .int .i64 m] w (GotPost bs most (infM F bs most) w) := by
  have hmx : (if m < 0 then (0 : Int) else m) = (most : Int) := by split <;> omega
  clear hm
  go_enter Try.func44, Try.ntmps44
  go_wp2
  obtain ⟨wg, hwg⟩ : ∃ wg, w.alloc (.cells #[.slice none 0 0, .int .i64 0, .int .i64 0] 79) = wg := ⟨_, rfl⟩
  obtain ⟨wb, hwb⟩ : ∃ wb, wg.alloc (.cells #[.slice A bs.length c, .int .i64 0] 117) = wb := ⟨_, rfl⟩
  obtain ⟨wc, hwc⟩ : ∃ wc, wb.alloc (.cells #[.pointer (some ⟨wg.heap.size, 0, none⟩), .slice none 0 0, .int .i64 most, .int .i64 0] 119) = wc := ⟨_, rfl⟩
  have sg : wg.heap.size = w.heap.size + 1 := by rw [← hwg]; simp
  have sb : wb.heap.size = wg.heap.size + 1 := by rw [← hwb]; simp
  have sc : wc.heap.size = wb.heap.size + 1 := by rw [← hwc]; simp
  have hGot : Cel wg w.heap.size 79 3 gotZ := by
    rw [← hwg]
    exact Cel.new w _ #[.slice none 0 0, .int .i64 0, .int .i64 0] gotZ (fun i hi => by
      match i, hi with
      | 0, _ => rfl
      | 1, _ => rfl
      | 2, _ => rfl)
  have hBg : Below w.heap.size w wg := by rw [← hwg]; exact (Below.refl _ _).alloc (Nat.le_refl _) _
  have hBb : Below wg.heap.size wg wb := by rw [← hwb]; exact (Below.refl _ _).alloc (Nat.le_refl _) _
  have hBc : Below wb.heap.size wb wc := by rw [← hwc]; exact (Below.refl _ _).alloc (Nat.le_refl _) _
  have hrd : RdRep 117 wg.heap.size wg.heap.size wb bs 0 := by
    refine ⟨A, c, ?_, (hI.below hBg).below hBb, fun hl b o hA => ?_, Nat.le_refl _, fun h => absurd h (by decide)⟩
    · rw [← hwb]
      exact Cel.new wg _ #[.slice A bs.length c, .int .i64 0] _ (fun i hi => by
        match i, hi with
        | 0, _ => rfl
        | 1, _ => rfl)
    · obtain ⟨b', o', hA', hlt, _⟩ := hI hl
      rw [hA] at hA'
      injection hA' with k1
      injection k1 with k1
      omega
  have hI0 : WkAt wg.heap.size wb.heap.size wg.heap.size bs most wc 0 (.slice none 0 0) [] 0 := by
    refine ⟨?_, hrd.below hBc, OwnS.nil _ _ _ _, Nat.zero_le _, by omega, hmm, hb, (fun _ h => by cases h), hsz, Nat.zero_le _⟩
    rw [← hwc]
    exact Cel.new wb _ #[.pointer (some ⟨wg.heap.size, 0, none⟩), .slice none 0 0, .int .i64 most, .int .i64 0] (wkF wg.heap.size (.slice none 0 0) most 0) (fun i hi => by
      match i, hi with
      | 0, _ => rfl
      | 1, _ => rfl
      | 2, _ => rfl
      | 3, _ => rfl)
  obtain ⟨RR, hRR⟩ : ∃ RR, rawM F bs most F 0 [] = RR := ⟨_, rfl⟩
  have HINF : Hid (infM F bs most = if RR.1 ≠ 0 then (RR.1, 0, []) else (0, (RR.2.1 + 7) / 8, RR.2.2)) := Lib.hid (by unfold infM; rw [hRR])
  have HR0 : Hid (WhRel wg.heap.size wb.heap.size wg.heap.size F bs most RR wg (.int .i64 0) wc) := Lib.hid ⟨0, [], .slice none 0 0, 0, 0, rfl, .inl rfl, hI0, hBb.trans (hBc.mono (by omega)), fun _ => .inl ⟨rfl, F, hRR.symm, by omega⟩, fun h => absurd rfl h⟩
  have HBG := Lib.hid hBg
  have HGOT := Lib.hid hGot
  have HSG := Lib.hid sg
  generalize infM F bs most = IM at *
  have e0 : w.heap.size + 1 = wg.heap.size := sg.symm
  simp only [hwg, e0, hwb, hwc]
  rw [sb] at HR0
  clear hmx hwg hwb hwc sb sc hGot hBg hBb hBc hrd hI0 hRR e0 sg
  generalize wg.heap.size + 1 = R at *
  generalize hL : wg.heap.size = L at *
  generalize hg0 : w.heap.size = g0 at *
  go_loopw [6] (fun last wr => WhRel L R L F bs most RR wg last wr) (fun last wr => errAt wr R * (8 * bs.length + 1 - placeAt wr L))
  case atStart => exact HR0.out
  case round =>
    clear HR0
    obtain ⟨p, out, vo, er, ln, rfl, hln, hI1, hB1, hok, hbad⟩ := hrel
    have HI1 := Lib.hid hI1
    have HB1 := Lib.hid hB1
    have HPL := Lib.hid hI1.placeAt
    have HEA := Lib.hid hI1.errAt
    have c3 := hI1.c3
    have hp := hI1.hp
    have hC1 := HGOT.out.below hB1 (by have := HSG.out; omega)
    have HC1 := Lib.hid hC1
    clear hI1 hB1 hC1
    by_cases he : er = 0
    · subst he
      rcases hok rfl with ⟨rfl, f, hrr, hf⟩ | ⟨rfl, hrr⟩
      · clear hok hbad hln
        obtain ⟨f', rfl⟩ : ∃ f', f = f' + 1 := ⟨f - 1, by omega⟩
        have HM : Hid (RR = _) := Lib.hid (hrr.trans (by rw [rawM]))
        have HT := Lib.hid (wTake_any L R L most p 3 bs out wr vo 0 HI1.out (by decide))
        clear hrr
        go_wp2_with fail
        refine HT.out.mono ?_
        rintro e w2 ⟨x, q, er2, rfl, hx0, hx1, hI2, hC2, _, hyes, hno⟩
        have hB2 := HB1.out.trans (HI1.out.belowL hC2)
        clear HT hC2 c3
        rcases tk_some bs p 3 with ⟨h1, hl1⟩ | ⟨h1, hl1⟩
        · obtain ⟨hx, rfl, rfl⟩ := hyes rfl _ h1
          have HI2 := Lib.hid hI2
          have HB2 := Lib.hid hB2
          have c3 := hI2.c3
          have HM1 : Hid (RR = if takeN bs (p + 1) 2 = 3 then (3, p, out) else if (blockM F bs most (takeN bs (p + 1) 2) (p + 3) out).1 ≠ 0 then blockM F bs most (takeN bs (p + 1) 2) (p + 3) out else if takeN bs p 1 = 1 then blockM F bs most (takeN bs (p + 1) 2) (p + 3) out else rawM F bs most f' (blockM F bs most (takeN bs (p + 1) 2) (p + 3) out).2.1 (blockM F bs most (takeN bs (p + 1) 2) (p + 3) out).2.2) := Lib.hid (HM.out.trans (if_neg (by omega)))
          have t1 := takeN_le bs p 1
          have t2 := takeN_le bs (p + 1) 2
          rw [takeN_12] at hx
          clear HM hyes hno h1 hI2 hB2
          generalize takeN bs p 1 = v1 at *
          generalize takeN bs (p + 1) 2 = v2 at *
          have hv1 : v1 = 0 ∨ v1 = 1 := by have := t1.2; omega
          have hv2 : v2 = 0 ∨ v2 = 1 ∨ v2 = 2 ∨ v2 = 3 := by have := t2.2; omega
          have HLE := Lib.hid hl1
          clear t1 t2 hx0 hx1 hl1
          rcases hv2 with rfl | rfl | rfl | rfl
          · have HM3 := Lib.hid (HM1.out.trans (if_neg (by decide)))
            have HUP := Lib.hid (fun h => (block_up (most := most) (bs := bs) F 0 (p + 3) out HLE.out h).1)
            clear HM1
            rcases hv1 with rfl | rfl
            · obtain rfl : x = 0 := by omega
              clear hx
              have HNF : Hid (∀ e w3, WbPost L R L bs most vo (blockM F bs most 0 (p + 3) out) w2 e w3 → WhRel L R L F bs most RR wg (.int .i64 0) w3 ∧ errAt w3 R * (8 * bs.length + 1 - placeAt w3 L) < 1 * (8 * bs.length + 1 - p)) := Lib.hid (fun e w3 hw => wh_next HM3.out HUP.out (.inl rfl) hp hf HI2.out HB2.out hw)
              clear HM3 HUP
              have HW := Lib.hid (wStored_any L R L most (p + 3) bs out w2 vo HI2.out)
              go_wp2_with fail
              refine HW.out.mono ?_
              rintro e w3 hw
              have HN := Lib.hid (HNF.out _ _ hw)
              obtain ⟨rfl, _⟩ := hw
              clear HW HNF
              go_wp2
              go_roundw
              case rel => exact HN.out.1
              case measure =>
                rw [HEA.out, HPL.out, if_pos (by trivial)]
                exact HN.out.2
            · obtain rfl : x = 1 := by omega
              clear hx
              have HNF : Hid (∀ e w3, WbPost L R L bs most vo (blockM F bs most 0 (p + 3) out) w2 e w3 → WhRel L R L F bs most RR wg (.int .i64 1) w3 ∧ errAt w3 R * (8 * bs.length + 1 - placeAt w3 L) < 1 * (8 * bs.length + 1 - p)) := Lib.hid (fun e w3 hw => wh_next HM3.out HUP.out (.inr rfl) hp hf HI2.out HB2.out hw)
              clear HM3 HUP
              have HW := Lib.hid (wStored_any L R L most (p + 3) bs out w2 vo HI2.out)
              go_wp2_with fail
              refine HW.out.mono ?_
              rintro e w3 hw
              have HN := Lib.hid (HNF.out _ _ hw)
              obtain ⟨rfl, _⟩ := hw
              clear HW HNF
              go_wp2
              go_roundw
              case rel => exact HN.out.1
              case measure =>
                rw [HEA.out, HPL.out, if_pos (by trivial)]
                exact HN.out.2
          · have HM3 := Lib.hid (HM1.out.trans (if_neg (by decide)))
            have HUP := Lib.hid (fun h => (block_up (most := most) (bs := bs) F 1 (p + 3) out HLE.out h).1)
            clear HM1
            rcases hv1 with rfl | rfl
            · obtain rfl : x = 2 := by omega
              clear hx
              have HNF : Hid (∀ e w3, WbPost L R L bs most vo (blockM F bs most 1 (p + 3) out) w2 e w3 → WhRel L R L F bs most RR wg (.int .i64 0) w3 ∧ errAt w3 R * (8 * bs.length + 1 - placeAt w3 L) < 1 * (8 * bs.length + 1 - p)) := Lib.hid (fun e w3 hw => wh_next HM3.out HUP.out (.inl rfl) hp hf HI2.out HB2.out hw)
              clear HM3 HUP
              go_wp2_with fail
              refine (wFixed_any w2).mono ?_
              rintro e w3 ⟨A1, c1, A2, c2, rfl, hA1, hf1, hA2, hf2, hB3⟩
              have hs2 := HI2.out.lt
              have hI3 := HI2.out.below hB3
              have hx1 : LenIn R L vo w3 A1 fixLit := ⟨hA1, fun _ b o e h => by have := hf1 b o e; have := (hs2 b h).2; omega, fixLit_ok.1, fixLit_ok.2, by rw [fixLit_len]; omega⟩
              have hx2 : LenIn R L vo w3 A2 fixDist := ⟨hA2, fun _ b o e h => by have := hf2 b o e; have := (hs2 b h).2; omega, fixDist_ok.1, fixDist_ok.2, by show 32 ≤ 400; omega⟩
              have HW := Lib.hid (wCoded_any L R L most (p + 3) F c1 c2 A1 A2 bs out fixLit fixDist w3 vo hI3 hx1 hx2 hF1)
              rw [fixLit_len, show fixDist.length = 32 from rfl] at HW
              clear hA1 hf1 hA2 hf2 hs2 hx1 hx2 hI3
              have HC3 := Lib.hid (Chg.of_below (S := FiP R L vo) hB3)
              clear hB3
              go_wp2_with fail
              refine HW.out.mono ?_
              rintro e w4 hw
              have hw2 : WbPost L R L bs most vo (blockM F bs most 1 (p + 3) out) w2 e w4 := by
                obtain ⟨h1, p9, o9, h9, hk9⟩ := hw
                exact ⟨h1, p9, o9, h9.trans HC3.out (.inl rfl), hk9⟩
              have HN := Lib.hid (HNF.out _ _ hw2)
              obtain ⟨rfl, _⟩ := hw
              clear HW HNF
              go_wp2
              go_roundw
              case rel => exact HN.out.1
              case measure =>
                rw [HEA.out, HPL.out, if_pos (by trivial)]
                exact HN.out.2
            · obtain rfl : x = 3 := by omega
              clear hx
              have HNF : Hid (∀ e w3, WbPost L R L bs most vo (blockM F bs most 1 (p + 3) out) w2 e w3 → WhRel L R L F bs most RR wg (.int .i64 1) w3 ∧ errAt w3 R * (8 * bs.length + 1 - placeAt w3 L) < 1 * (8 * bs.length + 1 - p)) := Lib.hid (fun e w3 hw => wh_next HM3.out HUP.out (.inr rfl) hp hf HI2.out HB2.out hw)
              clear HM3 HUP
              go_wp2_with fail
              refine (wFixed_any w2).mono ?_
              rintro e w3 ⟨A1, c1, A2, c2, rfl, hA1, hf1, hA2, hf2, hB3⟩
              have hs2 := HI2.out.lt
              have hI3 := HI2.out.below hB3
              have hx1 : LenIn R L vo w3 A1 fixLit := ⟨hA1, fun _ b o e h => by have := hf1 b o e; have := (hs2 b h).2; omega, fixLit_ok.1, fixLit_ok.2, by rw [fixLit_len]; omega⟩
              have hx2 : LenIn R L vo w3 A2 fixDist := ⟨hA2, fun _ b o e h => by have := hf2 b o e; have := (hs2 b h).2; omega, fixDist_ok.1, fixDist_ok.2, by show 32 ≤ 400; omega⟩
              have HW := Lib.hid (wCoded_any L R L most (p + 3) F c1 c2 A1 A2 bs out fixLit fixDist w3 vo hI3 hx1 hx2 hF1)
              rw [fixLit_len, show fixDist.length = 32 from rfl] at HW
              clear hA1 hf1 hA2 hf2 hs2 hx1 hx2 hI3
              have HC3 := Lib.hid (Chg.of_below (S := FiP R L vo) hB3)
              clear hB3
              go_wp2_with fail
              refine HW.out.mono ?_
              rintro e w4 hw
              have hw2 : WbPost L R L bs most vo (blockM F bs most 1 (p + 3) out) w2 e w4 := by
                obtain ⟨h1, p9, o9, h9, hk9⟩ := hw
                exact ⟨h1, p9, o9, h9.trans HC3.out (.inl rfl), hk9⟩
              have HN := Lib.hid (HNF.out _ _ hw2)
              obtain ⟨rfl, _⟩ := hw
              clear HW HNF
              go_wp2
              go_roundw
              case rel => exact HN.out.1
              case measure =>
                rw [HEA.out, HPL.out, if_pos (by trivial)]
                exact HN.out.2
          · have HM3 := Lib.hid (HM1.out.trans (if_neg (by decide)))
            have HUP := Lib.hid (fun h => (block_up (most := most) (bs := bs) F 2 (p + 3) out HLE.out h).1)
            clear HM1
            rcases hv1 with rfl | rfl
            · obtain rfl : x = 4 := by omega
              clear hx
              have HNF : Hid (∀ e w3, WbPost L R L bs most vo (blockM F bs most 2 (p + 3) out) w2 e w3 → WhRel L R L F bs most RR wg (.int .i64 0) w3 ∧ errAt w3 R * (8 * bs.length + 1 - placeAt w3 L) < 1 * (8 * bs.length + 1 - p)) := Lib.hid (fun e w3 hw => wh_next HM3.out HUP.out (.inl rfl) hp hf HI2.out HB2.out hw)
              clear HM3 HUP
              have HW := Lib.hid (wLengths_any L R L most (p + 3) bs out w2 vo HI2.out)
              go_wp2_with fail
              refine HW.out.mono ?_
              rintro e w3 ⟨v1, v2, p3, rfl, hI3, hC3, hgo⟩
              have HI3 := Lib.hid hI3
              have HB3 := Lib.hid (HB2.out.trans (HI2.out.belowL hC3))
              have HC3 := Lib.hid hC3
              have c3 := hI3.c3
              have HX : Hid (blockM F bs most 2 (p + 3) out = if (dynM bs (p + 3)).1 ≠ 0 then ((dynM bs (p + 3)).1, p + 3, out) else codedM bs most (dynM bs (p + 3)).2.2.1 (dynM bs (p + 3)).2.2.2 F (dynM bs (p + 3)).2.1 out) := Lib.hid rfl
              clear HW hI3 hC3
              generalize dynM bs (p + 3) = D at *
              obtain ⟨ed, pd, xa, xb⟩ := D
              simp only at HX HI3 c3 hgo
              by_cases hed : ed = 0
              · subst hed
                obtain ⟨rfl, A1, c1, A2, c2, rfl, rfl, hx1, hx2⟩ := hgo rfl
                have HX2 := Lib.hid (HX.out.trans (if_neg (fun h => h rfl)))
                have HW := Lib.hid (wCoded_any L R L most _ F c1 c2 A1 A2 bs out xa xb w3 vo HI3.out hx1 hx2 hF1)
                rw [← HX2.out] at HW
                clear hgo hx1 hx2 HX
                go_wp2_with fail
                refine HW.out.mono ?_
                rintro e w4 hw
                have hw2 : WbPost L R L bs most vo (blockM F bs most 2 (p + 3) out) w2 e w4 := by
                  obtain ⟨h1, p9, o9, h9, hk9⟩ := hw
                  exact ⟨h1, p9, o9, h9.trans HC3.out (.inl rfl), hk9⟩
                have HN := Lib.hid (HNF.out _ _ hw2)
                obtain ⟨rfl, _⟩ := hw
                clear HW HNF hw2
                go_wp2
                go_roundw
                case rel => exact HN.out.1
                case measure =>
                  rw [HEA.out, HPL.out, if_pos (by trivial)]
                  exact HN.out.2
              · have HX2 := Lib.hid (HX.out.trans (if_pos hed))
                have d7 : (ed == 0) = false := by simpa using hed
                have HN := Lib.hid (HNF.out _ _ (wb_err (x := ed) (by rw [HX2.out]) hed ⟨vo, HI3.out, HC3.out, .inl rfl⟩))
                clear hgo HX HNF
                go_wp2
                go_roundw
                case rel => exact HN.out.1
                case measure =>
                  rw [HEA.out, HPL.out, if_pos (by trivial)]
                  exact HN.out.2
            · obtain rfl : x = 5 := by omega
              clear hx
              have HNF : Hid (∀ e w3, WbPost L R L bs most vo (blockM F bs most 2 (p + 3) out) w2 e w3 → WhRel L R L F bs most RR wg (.int .i64 1) w3 ∧ errAt w3 R * (8 * bs.length + 1 - placeAt w3 L) < 1 * (8 * bs.length + 1 - p)) := Lib.hid (fun e w3 hw => wh_next HM3.out HUP.out (.inr rfl) hp hf HI2.out HB2.out hw)
              clear HM3 HUP
              have HW := Lib.hid (wLengths_any L R L most (p + 3) bs out w2 vo HI2.out)
              go_wp2_with fail
              refine HW.out.mono ?_
              rintro e w3 ⟨v1, v2, p3, rfl, hI3, hC3, hgo⟩
              have HI3 := Lib.hid hI3
              have HB3 := Lib.hid (HB2.out.trans (HI2.out.belowL hC3))
              have HC3 := Lib.hid hC3
              have c3 := hI3.c3
              have HX : Hid (blockM F bs most 2 (p + 3) out = if (dynM bs (p + 3)).1 ≠ 0 then ((dynM bs (p + 3)).1, p + 3, out) else codedM bs most (dynM bs (p + 3)).2.2.1 (dynM bs (p + 3)).2.2.2 F (dynM bs (p + 3)).2.1 out) := Lib.hid rfl
              clear HW hI3 hC3
              generalize dynM bs (p + 3) = D at *
              obtain ⟨ed, pd, xa, xb⟩ := D
              simp only at HX HI3 c3 hgo
              by_cases hed : ed = 0
              · subst hed
                obtain ⟨rfl, A1, c1, A2, c2, rfl, rfl, hx1, hx2⟩ := hgo rfl
                have HX2 := Lib.hid (HX.out.trans (if_neg (fun h => h rfl)))
                have HW := Lib.hid (wCoded_any L R L most _ F c1 c2 A1 A2 bs out xa xb w3 vo HI3.out hx1 hx2 hF1)
                rw [← HX2.out] at HW
                clear hgo hx1 hx2 HX
                go_wp2_with fail
                refine HW.out.mono ?_
                rintro e w4 hw
                have hw2 : WbPost L R L bs most vo (blockM F bs most 2 (p + 3) out) w2 e w4 := by
                  obtain ⟨h1, p9, o9, h9, hk9⟩ := hw
                  exact ⟨h1, p9, o9, h9.trans HC3.out (.inl rfl), hk9⟩
                have HN := Lib.hid (HNF.out _ _ hw2)
                obtain ⟨rfl, _⟩ := hw
                clear HW HNF hw2
                go_wp2
                go_roundw
                case rel => exact HN.out.1
                case measure =>
                  rw [HEA.out, HPL.out, if_pos (by trivial)]
                  exact HN.out.2
              · have HX2 := Lib.hid (HX.out.trans (if_pos hed))
                have d7 : (ed == 0) = false := by simpa using hed
                have HN := Lib.hid (HNF.out _ _ (wb_err (x := ed) (by rw [HX2.out]) hed ⟨vo, HI3.out, HC3.out, .inl rfl⟩))
                clear hgo HX HNF
                go_wp2
                go_roundw
                case rel => exact HN.out.1
                case measure =>
                  rw [HEA.out, HPL.out, if_pos (by trivial)]
                  exact HN.out.2
          · have HM3 := Lib.hid (HM1.out.trans (if_pos (by rfl)))
            clear HM1
            rcases hv1 with rfl | rfl
            · obtain rfl : x = 6 := by omega
              clear hx
              have HF := Lib.hid (wFail_any L R L most (p + 3) bs out w2 vo 0 3 HI2.out)
              rw [fstE_z] at HF
              go_wp2_with fail
              refine HF.out.mono ?_
              rintro e w3 ⟨rfl, hI3, hC3⟩
              have HN : Hid (WhRel L R L F bs most RR wg (.int .i64 0) w3 ∧ errAt w3 R * (8 * bs.length + 1 - placeAt w3 L) < 1 * (8 * bs.length + 1 - p)) := Lib.hid ⟨⟨p + 3, out, vo, 3, 0, rfl, by decide, hI3, HB2.out.trans (HI2.out.belowL (hC3.mono (fun k _ e => .inl e))), fun h => absurd h (by decide), fun _ => by rw [HM3.out]⟩, by rw [hI3.errAt, if_neg (by decide)]; omega⟩
              clear HF hI3 hC3
              go_wp2
              go_roundw
              case rel => exact HN.out.1
              case measure =>
                rw [HEA.out, HPL.out, if_pos (by trivial)]
                exact HN.out.2
            · obtain rfl : x = 7 := by omega
              clear hx
              have HF := Lib.hid (wFail_any L R L most (p + 3) bs out w2 vo 0 3 HI2.out)
              rw [fstE_z] at HF
              go_wp2_with fail
              refine HF.out.mono ?_
              rintro e w3 ⟨rfl, hI3, hC3⟩
              have HN : Hid (WhRel L R L F bs most RR wg (.int .i64 1) w3 ∧ errAt w3 R * (8 * bs.length + 1 - placeAt w3 L) < 1 * (8 * bs.length + 1 - p)) := Lib.hid ⟨⟨p + 3, out, vo, 3, 1, rfl, by decide, hI3, HB2.out.trans (HI2.out.belowL (hC3.mono (fun k _ e => .inl e))), fun h => absurd h (by decide), fun _ => by rw [HM3.out]⟩, by rw [hI3.errAt, if_neg (by decide)]; omega⟩
              clear HF hI3 hC3
              go_wp2
              go_roundw
              case rel => exact HN.out.1
              case measure =>
                rw [HEA.out, HPL.out, if_pos (by trivial)]
                exact HN.out.2
        · obtain ⟨rfl, rfl, rfl⟩ := hno rfl h1
          have HI2 := Lib.hid hI2
          have HB2 := Lib.hid hB2
          have c3 := hI2.c3
          have HM1 := Lib.hid (HM.out.trans (if_pos (by omega)))
          have HEA2 := Lib.hid hI2.errAt
          clear HM hyes hno h1 hI2 hB2 hl1 hx0 hx1
          go_wp2
          go_roundw
          case rel => exact ⟨q, out, vo, 4, 0, rfl, .inl rfl, HI2.out, HB2.out, fun h => absurd h (by decide), fun _ => by rw [HM1.out]⟩
          case measure =>
            rw [HEA2.out, HEA.out, HPL.out, if_neg (by decide), if_pos (by trivial)]
            omega
      · obtain ⟨Av, cv, rfl⟩ := HI1.out.own.shape
        have c1 := HI1.out.c1
        have c0 := HI1.out.c0
        have HIM := Lib.hid (inf_ok HINF.out hrr)
        have HUS : Hid (Calls Try.prog 79 #[.pointer (some ⟨L, 0, none⟩)] wr.drew fun e w' => e = .returned (.int .i64 ((p + 7) / 8 : Nat)) ∧ w' = wr.drew) := Lib.hid ((usedR_any L L bs p wr.drew HI1.out.rd.drew hp (by omega)).mono fun _ _ h => ⟨h.1, h.2.symm⟩)
        have HC2 := Lib.hid HC1.out.drew
        have HOC : Hid (∀ v ∈ (#[.slice Av out.length cv, .int .i64 ((p + 7) / 8 : Nat), .int .i64 0] : Array Value).toList, v.oneCell' = true) := Lib.hid (by simp [Value.oneCell'])
        clear hok hbad hln hrr
        go_wp2
        go_still_tail 10, (by kernel_rfl)
        still_call HUS.out
        repeat still_step
        refine wpStill_nil ?_
        change wpList _ _ _ _ _ wr.drew
        refine wpList_store_part (vs := #[.slice Av out.length cv, .int .i64 ((p + 7) / 8 : Nat), .int .i64 0]) (off := 0) rfl (.tmp 4) (.tmp 95) rfl rfl rfl HC2.out info_got (by simp) HOC.out ?_
        intro w9 hC9 hg9 hs9
        have HB9 := Lib.hid ((Below.drewN (HBG.out.trans (HB1.out.mono (by have := HSG.out; omega))) 1).grown hg9 (by have h1 := HBG.out.size; have h2 := HB1.out.size; simp; omega) (fun k hk => by injection hk with hk; omega))
        have HC : Hid (Cel w9 g0 79 3 (fun i => (#[.slice Av out.length cv, .int .i64 ((p + 7) / 8 : Nat), .int .i64 0] : Array Value).getD i undef)) := Lib.hid (hC9.congr fun i hi => by rw [if_pos ⟨by omega, by omega⟩, Nat.sub_zero])
        have HOW : Hid (OwnS w9 L 5 1 (.slice Av out.length cv) out.length (out.map (Value.int .u8))) := Lib.hid ((HI1.out.own.drew).kept hg9 (.inr fun hk => by have h1 := (HI1.out.own.lt g0 hk).1; have h2 := HSG.out; omega))
        clear hC9 hg9 hs9
        go_wp2
        rw [← hg0] at HB9
        exact bodyPost_ret (v := .agg #[.slice Av out.length cv, .int .i64 ((p + 7) / 8 : Nat), .int .i64 0]) (results_cel rfl _ rfl HC.out Try.underlying79 rfl info_got (Nat.le_refl 3) (fun j hj => getSome hj)) rfl (got_ok HIM.out HB9.out (HOW.out.base_ (by have := HSG.out; omega)) HI1.out.ol (by omega) HI1.out.ob)
    · have d5 : (er == 0) = false := by simpa using he
      have d6 : (er != 0) = true := by simpa using he
      have HB := Lib.hid (hbad he)
      clear hok hbad
      rcases hln with rfl | rfl
      all_goals
        go_wp2_with (go_loud (refine wpList_store_part (vs := #[.slice none 0 0, .int .i64 0, .int .i64 er]) (off := 0) rfl (.tmp 4) (.tmp 85) rfl rfl rfl HC1.out info_got (by simp) (by simp [Value.oneCell']) ?_; intro w9 hC9 hg9 hs9))
        have hB9 := (HBG.out.trans (HB1.out.mono (by have := HSG.out; omega))).grown hg9 (by have := HBG.out.size; have := HB1.out.size; omega) (fun k hk => by injection hk with hk; omega)
        have hC : Cel w9 g0 79 3 (fun i => (#[.slice none 0 0, .int .i64 0, .int .i64 er] : Array Value).getD i undef) := hC9.congr fun i hi => by rw [if_pos ⟨by omega, by omega⟩, Nat.sub_zero]
        exact bodyPost_ret (v := .agg #[.slice none 0 0, .int .i64 0, .int .i64 er]) (results_cel rfl _ rfl hC Try.underlying79 rfl info_got (Nat.le_refl 3) (fun j hj => getSome hj)) rfl (by rw [← hg0] at hB9; exact got_no (inf_no HINF.out (Prod.ext HB.out rfl) he) he hB9)
end Go.Proofs.Ytoeipgbnjcgbjaa
/- The document's Inflate: Zlib. -/
namespace Go.Proofs.Ytoeipgbnjcgbjaa
open Go.RowKit
set_option linter.unusedVariables false

def getTo (y : Nat → Int) : Nat → Int
  | 0 => 0
  | k + 1 => 256 * getTo y k + y k
theorem getTo_le (y : Nat → Int) (hy : ∀ j, j < 4 → 0 ≤ y j ∧ y j < 256) : ∀ k, k ≤ 4 → 0 ≤ getTo y k ∧ getTo y k < 256 ^ k := by
  intro k
  induction k with
  | zero => intro _; exact ⟨Int.le_refl 0, by show (0 : Int) < 1; decide⟩
  | succ k ih =>
    intro hk
    have h1 := ih (by omega)
    have h2 := hy k (by omega)
    have h3 : (256 : Int) ^ (k + 1) = 256 ^ k * 256 := Int.pow_succ _ _
    show 0 ≤ 256 * getTo y k + y k ∧ 256 * getTo y k + y k < 256 ^ (k + 1)
    rw [h3]
    generalize (256 : Int) ^ k = P at *
    omega
set_option maxRecDepth 100000 in
set_option maxHeartbeats 2000000 in
theorem getR_any (b o c : Nat) (y : Nat → Int) (w : World) (hc : ∀ j, j < 4 → w.cell? ⟨b, o + j, none⟩ = some (.int .u8 (y j))) (hy : ∀ j, j < 4 → 0 ≤ y j ∧ y j < 256) :
    Calls Try.prog 51 #[.slice (some ⟨b, o, none⟩) 4 c] w fun e w' => e = .returned (.int .u64 (getTo y 4)) ∧ w' = w := by
  have HC := Lib.hid hc
  have HY := Lib.hid hy
  clear hc hy
  go_enter Try.func51, Try.ntmps51
  go_wp2
  go_loopw [3, 4] (fun v i wr => ∃ k : Nat, k ≤ 4 ∧ i = .int .i64 k ∧ v = .int .u64 (getTo y k) ∧ w = wr) (fun _ i _ => 4 - (intOf i).toNat)
  case atStart => exact ⟨0, Nat.zero_le _, rfl, rfl, rfl⟩
  case round =>
    obtain ⟨k, hk, rfl, rfl, rfl⟩ := hrel
    by_cases hlt : k < 4
    · have d1 : decide ((k : Int) < 4) = true := decide_eq_true (by omega)
      have hlt2 : (k : Int) < 4 := by omega
      have kc := HC.out k hlt
      have h1 := getTo_le y HY.out k (by omega)
      have h2 := HY.out k hlt
      have hp : (256 : Int) ^ k ≤ 256 ^ 3 := by
        have h5 : ∀ j : Nat, j < 4 → (256 : Int) ^ j ≤ 256 ^ 3 := by decide
        exact h5 k hlt
      have h3 : getTo y k < 16777216 := by have : (256 : Int) ^ 3 = 16777216 := by decide
                                           omega
      have HS : Hid (getTo y (k + 1) = 256 * getTo y k + y k) := Lib.hid rfl
      generalize getTo y k = a at *
      generalize y k = z at *
      have e0 : IntKind.u64.wrap z = z := IntWalk.u64_in _ (by omega)
      have e1 : IntKind.u64.wrap (256 * a) = 256 * a := IntWalk.u64_in _ (by omega)
      have e2 : IntKind.u64.wrap (256 * a + z) = 256 * a + z := IntWalk.u64_in _ (by omega)
      clear h1 hp
      go_wp2
      go_roundw
      case rel => exact ⟨k + 1, by omega, by go_num, by rw [HS.out], trivial⟩
      case measure => simp [intOf]; omega
    · have d1 : decide ((k : Int) < 4) = false := decide_eq_false (by omega)
      obtain rfl : k = 4 := by omega
      go_wp2
      go_ret
      exact ⟨rfl, rfl⟩
set_option maxRecDepth 100000 in
set_option maxHeartbeats 16000000 in
theorem wZlib_any (A : Option Addr) (c F : Nat) (bs : List Int) (m : Int) (most : Nat) (w : World) (hI : Ints .u8 w A bs) (hb : Bytes bs) (hsz : bs.length ≤ 140737488351232) (hc : bs.length ≤ c) (hm : max m 0 = (most : Int)) (hmm : most ≤ 1000000) (hF1 : most < F) (hF2 : 8 * bs.length < F) :
    Calls Try.prog 46 #[.slice A bs.length c, .int .i64 m] w (GotPost bs most (zlibM F bs most) w) := by
  obtain ⟨ZM, hZM⟩ : ∃ ZM, zlibM F bs most = ZM := ⟨_, rfl⟩
  rw [hZM]
  have hC0 : Cel (w.alloc (.cells #[.slice none 0 0, .int .i64 0, .int .i64 0] 79)) w.heap.size 79 3 gotZ := Cel.new w _ #[.slice none 0 0, .int .i64 0, .int .i64 0] gotZ (fun i hi => by
      match i, hi with
      | 0, _ => rfl
      | 1, _ => rfl
      | 2, _ => rfl)
  have hB0 : Below w.heap.size w (w.alloc (.cells #[.slice none 0 0, .int .i64 0, .int .i64 0] 79)) := (Below.refl _ _).alloc (Nat.le_refl _) _
  have HC0 := Lib.hid hC0
  have HB0 := Lib.hid hB0
  clear hC0 hB0
  by_cases h2 : bs.length < 2
  · have HM : Hid (ZM = (4, 0, [])) := Lib.hid (by rw [← hZM]; unfold zlibM; rw [if_pos h2])
    have d1 : decide (bs.length < 2) = true := decide_eq_true h2
    have d2 : decide ((bs.length : Int) < 2) = true := decide_eq_true (by omega)
    clear hZM hI hm
    go_enter Try.func46, Try.ntmps46
    go_wp2_with (go_loud (refine wpList_store_part (vs := #[.slice none 0 0, .int .i64 0, .int .i64 4]) (off := 0) rfl (.tmp 4) (.tmp 10) rfl rfl rfl (HC0.out) info_got (by simp) (by simp [Value.oneCell']) ?_; intro w9 hC9 hg9 hs9))
    have hC : Cel w9 w.heap.size 79 3 (fun i => (#[.slice none 0 0, .int .i64 0, .int .i64 4] : Array Value).getD i undef) := hC9.congr fun i hi => by rw [if_pos ⟨by omega, by omega⟩, Nat.sub_zero]
    have HB9 := Lib.hid ((HB0.out).grown hg9 (HB0.out).size (fun k hk => by injection hk with hk; omega))
    exact bodyPost_ret (v := .agg #[.slice none 0 0, .int .i64 0, .int .i64 4]) (results_cel rfl _ rfl hC Try.underlying79 rfl info_got (Nat.le_refl 3) (fun j hj => getSome hj)) rfl (got_no HM.out (by decide) HB9.out)
  · have d1 : decide (bs.length < 2) = false := decide_eq_false h2
    have d2 : decide ((bs.length : Int) < 2) = false := decide_eq_false (by omega)
    have HM := Lib.hid (hZM.symm.trans (zlibM_two h2))
    have hI0 := hI.below HB0.out
    have sg : (w.alloc (.cells #[.slice none 0 0, .int .i64 0, .int .i64 0] 79)).heap.size = w.heap.size + 1 := by simp
    obtain ⟨wg, hwg⟩ : ∃ wg, w.alloc (.cells #[.slice none 0 0, .int .i64 0, .int .i64 0] 79) = wg := ⟨_, rfl⟩
    rw [hwg] at HC0 HB0 hI0 sg
    have HSG := Lib.hid sg
    obtain ⟨b, o, rfl, hbs, hcell⟩ := hI0 (by omega)
    have HBW : Hid (b < w.heap.size) := Lib.hid (by obtain ⟨b', o', e, h, _⟩ := hI (by omega); injection e with e; injection e with e _ _; omega)
    have k0 := hcell 0 (by omega)
    have k1 := hcell 1 (by omega)
    simp only [Nat.add_zero] at k0
    have q0 := getD_byte hb 0
    have q1 := getD_byte hb 1
    have l1 : (1 : Int) < (bs.length : Int) := by omega
    have l0 : (0 : Int) < (bs.length : Int) := by omega
    have l2 : (2 : Int) ≤ (bs.length : Int) := by omega
    have l3 : (bs.length : Int) ≤ (c : Int) := by omega
    have HCELL := Lib.hid hcell
    have HCELL2 : Hid (∀ (wx : World), wx.heap = wg.heap → ∀ j, j < bs.length → wx.cell? ⟨b, o + j, none⟩ = some (.int .u8 (bs.getD j 0))) := Lib.hid fun wx hx j hj => by rw [World.cell?_of_block (show wx.heap[b]? = wg.heap[b]? by rw [hx])]; exact hcell j hj
    clear hZM hcell hI hI0 sg
    generalize bs.getD 0 0 = x0 at *
    generalize bs.getD 1 0 = x1 at *
    have hx : 0 ≤ x0 * 256 + x1 := by omega
    have n15 := and15 x0 q0
    have n32 := and32 x1 q1
    have u1 : IntKind.i64.wrap (x0 * 256) = x0 * 256 := IntWalk.i64_in _ (by omega)
    have u2 : IntKind.i64.wrap (x0 * 256 + x1) = x0 * 256 + x1 := IntWalk.i64_in _ (by omega)
    by_cases g1 : x0 % 16 = 8
    · have e1 : (x0 % 16 != 8) = false := by simpa using g1
      by_cases g2 : 7 < x0 / 16
      · have e2 : decide (7 < x0 / 16) = true := decide_eq_true g2
        have HM2 : Hid (ZM = (3, 0, [])) := Lib.hid (HM.out.trans (if_pos (by unfold headB; omega)))
        clear HM g1 g2
        go_enter Try.func46, Try.ntmps46
        go_wp2
        (try simp only [hwg])
        go_quiet (fail)
        go_wp2_with (go_loud (refine wpList_store_part (vs := #[.slice none 0 0, .int .i64 0, .int .i64 3]) (off := 0) rfl (.tmp 4) (.tmp 44) rfl rfl rfl (HC0.out.drewN nq) info_got (by simp) (by simp [Value.oneCell']) ?_; intro w9 hC9 hg9 hs9))
        have hC : Cel w9 w.heap.size 79 3 (fun i => (#[.slice none 0 0, .int .i64 0, .int .i64 3] : Array Value).getD i undef) := hC9.congr fun i hi => by rw [if_pos ⟨by omega, by omega⟩, Nat.sub_zero]
        have HB9 := Lib.hid ((Below.drewN HB0.out nq).grown hg9 (Below.drewN HB0.out nq).size (fun k hk => by injection hk with hk; omega))
        exact bodyPost_ret (v := .agg #[.slice none 0 0, .int .i64 0, .int .i64 3]) (results_cel rfl _ rfl hC Try.underlying79 rfl info_got (Nat.le_refl 3) (fun j hj => getSome hj)) rfl (got_no HM2.out (by decide) HB9.out)
      · have e2 : decide (7 < x0 / 16) = false := decide_eq_false g2
        by_cases g3 : (x0 * 256 + x1) % 31 = 0
        · have e3 : ((x0 * 256 + x1) % 31 != 0) = false := by simpa using g3
          by_cases g4 : x1 / 32 % 2 = 0
          · have e4 : (x1 / 32 % 2 * 32 != 0) = false := by rw [g4]; rfl
            have HM2 := Lib.hid (HM.out.trans (if_neg (by unfold headB; omega)))
            clear HM g1 g2 g3 g4
            go_enter Try.func46, Try.ntmps46
            go_wp2
            (try simp only [hwg])
            go_quiet (fail)
            have hIq : Ints .u8 (wg.drewN nq) (some ⟨b, o, none⟩) bs := fun _ => ⟨b, o, rfl, hbs, HCELL.out⟩
            have hbq : b < (wg.drewN nq).heap.size := hbs
            have HBQ0 := Lib.hid (Below.drewN HB0.out nq)
            have HCG := Lib.hid (HC0.out.drewN nq)
            have HCQ := Lib.hid (HCELL2.out (wg.drewN nq) rfl)
            have HIQ := Lib.hid hIq
            have HBQ := Lib.hid hbq
            have HSQ : Hid ((wg.drewN nq).heap.size = w.heap.size + 1) := HSG
            clear hwg HSG HCELL HCELL2 HC0 HB0 hbs
            clear k0 k1 n15 n32 u1 u2 e1 e2 e3 e4 hx hIq hbq l1 l0
            generalize wg.drewN nq = wq at *
            by_cases hc2 : c = 2
            · subst hc2
              have hd0 : bs.drop 2 = [] := by rw [List.drop_eq_nil_iff]; omega
              have hl0 : bs.length = 2 := by omega
              have HR := Lib.hid (wRaw_any (some ⟨b, o, none⟩) 0 F [] m most wq Ints.nil (fun _ h => by cases h) (by simp) hm hmm hF1 (by simp; omega))
              have HX : Hid (infM F (bs.drop 2) most = (4, 0, [])) := Lib.hid (by rw [hd0]; obtain ⟨f, rfl⟩ : ∃ f, F = f + 1 := ⟨F - 1, by omega⟩; unfold infM; simp [rawM])
              have HM3 : Hid (ZM = (4, 0, [])) := Lib.hid (HM2.out.trans (by rw [HX.out]; rfl))
              have HX2 : Hid (infM F [] most = (4, 0, [])) := Lib.hid (by have := HX.out; rw [hd0] at this; exact this)
              clear HM2 hd0 HX
              rw [hl0]
              go_wp2_with fail
              simp only [List.length_nil] at HR
              refine HR.out.mono ?_
              rintro e w3 ⟨hB3, hbad, _⟩
              rw [HX2.out] at hbad
              obtain rfl := hbad (by decide)
              have hB4 := hB3.alloc hB3.size (.cells #[.slice none 0 0, .int .i64 0, .int .i64 4] 79)
              have HB4 := Lib.hid (HBQ0.out.trans (hB4.mono HBQ0.out.size))
              have HCG4 := Lib.hid (HCG.out.below hB4 (by have := HSQ.out; omega))
              clear hbad hB3 hB4 HR
              (try simp only)
              go_wp2_with (go_loud (refine wpList_store_part (vs := #[.slice none 0 0, .int .i64 0, .int .i64 4]) (off := 0) rfl (.tmp 4) (.tmp 52) rfl rfl rfl (HCG4.out) info_got (by simp) (by simp [Value.oneCell']) ?_; intro w9 hC9 hg9 hs9))
              have hC : Cel w9 w.heap.size 79 3 (fun i => (#[.slice none 0 0, .int .i64 0, .int .i64 4] : Array Value).getD i undef) := hC9.congr fun i hi => by rw [if_pos ⟨by omega, by omega⟩, Nat.sub_zero]
              have HB9 := Lib.hid ((HB4.out).grown hg9 (HB4.out).size (fun k hk => by injection hk with hk; omega))
              exact bodyPost_ret (v := .agg #[.slice none 0 0, .int .i64 0, .int .i64 4]) (results_cel rfl _ rfl hC Try.underlying79 rfl info_got (Nat.le_refl 3) (fun j hj => getSome hj)) rfl (got_no HM3.out (by decide) HB9.out)
            · have hc3 : (c == 2) = false := by simpa using hc2
              have hdl : (bs.drop 2).length = bs.length - 2 := List.length_drop
              have hId : Ints .u8 wq (some ⟨b, o + 2, none⟩) (bs.drop 2) := fun _ => ⟨b, o + 2, rfl, HBQ.out, fun j hj => by
                rw [hdl] at hj
                rw [Nat.add_assoc, HCQ.out (2 + j) (by omega), List.getD_eq_getElem?_getD, List.getD_eq_getElem?_getD, List.getElem?_drop]⟩
              have hbd : Bytes (bs.drop 2) := fun x hx => hb x (List.mem_of_mem_drop hx)
              have HR := Lib.hid (by have := wRaw_any (some ⟨b, o + 2, none⟩) (c - 2) F (bs.drop 2) m most wq hId hbd (by omega) hm hmm hF1 (by omega); rwa [hdl] at this : Calls Try.prog 44 #[.slice (some ⟨b, o + 2, none⟩) (bs.length - 2) (c - 2), .int .i64 m] wq (GotPost (bs.drop 2) most (infM F (bs.drop 2) most) wq))
              have HDL := Lib.hid hdl
              clear hId hbd hdl
              generalize infM F (bs.drop 2) most = X at *
              obtain ⟨ex, nx, ox⟩ := X
              simp only at HM2
              go_wp2_with fail
              refine HR.out.mono ?_
              rintro e w3 ⟨hB3, hbad, hgood⟩
              have HB3 := Lib.hid (HBQ0.out.trans (hB3.mono HBQ0.out.size))
              have HBB3 := Lib.hid hB3
              clear HR hB3
              simp only at hbad hgood
              by_cases hx0 : ex = 0
              · subst hx0
                obtain ⟨⟨v3, rfl, ho3⟩, hl3, hn3, hb3'⟩ := hgood rfl
                rw [HDL.out] at hn3
                have HM3 := Lib.hid (HM2.out.trans (if_neg (by decide)))
                clear hbad hgood HM2
                obtain ⟨Ao, co, rfl⟩ := ho3.shape
                (try simp only at ho3)
                have hB4 := (Below.refl w3.heap.size w3).alloc (Nat.le_refl _) (.cells #[.slice Ao ox.length co, .int .i64 nx, .int .i64 0] 79)
                have HO4 := Lib.hid ((ho3.alloc (.cells #[.slice Ao ox.length co, .int .i64 nx, .int .i64 0] 79)).base_ HBQ0.out.size)
                have HBB4 := Lib.hid (HBB3.out.trans (hB4.mono HBB3.out.size))
                have HB4 := Lib.hid (HBQ0.out.trans (HBB4.out.mono HBQ0.out.size))
                have HCG4 := Lib.hid (HCG.out.below HBB4.out (by have := HSQ.out; omega))
                have hCN : Cel (w3.alloc (.cells #[.slice Ao ox.length co, .int .i64 nx, .int .i64 0] 79)) w3.heap.size 79 3 (fun i => (#[.slice Ao ox.length co, .int .i64 nx, .int .i64 0] : Array Value).getD i undef) := Cel.new w3 _ #[.slice Ao ox.length co, .int .i64 nx, .int .i64 0] _ (fun i hi => by
                  match i, hi with
                  | 0, _ => rfl
                  | 1, _ => rfl
                  | 2, _ => rfl)
                have HCN := Lib.hid hCN
                have HOB := Lib.hid hb3'
                have HO3G : Hid (∀ k, (Value.slice Ao ox.length co).ownBlock = some k → w.heap.size < k) := Lib.hid fun k hk => by have h1 := (ho3.lt k hk).1; have h2 := HSQ.out; omega
                clear ho3 hb3' hB4 hCN
                obtain ⟨n, hn⟩ : ∃ n, nx + 2 = n := ⟨_, rfl⟩
                have en : IntKind.i64.wrap (2 + (nx : Int)) = (n : Int) := by rw [IntWalk.i64_in _ (by omega)]; omega
                have en1 : IntKind.i64.wrap ((bs.length : Int) - 2) = (bs.length : Int) - 2 := IntWalk.i64_in _ (by omega)
                have en2 : IntKind.i64.wrap ((bs.length : Int) - 2 - (nx : Int)) = (bs.length : Int) - 2 - (nx : Int) := IntWalk.i64_in _ (by omega)
                rw [hn] at HM3
                by_cases h4 : bs.length < n + 4
                · have d4 : decide ((bs.length : Int) - 2 - (nx : Int) < 4) = true := decide_eq_true (by omega)
                  have HM4 := Lib.hid (HM3.out.trans (if_pos h4))
                  clear HM3 hn
                  (try simp only)
                  go_wp2_with (go_loud (refine wpList_store_part (vs := #[.slice none 0 0, .int .i64 0, .int .i64 4]) (off := 0) rfl (.tmp 4) (.tmp 60) rfl rfl rfl (HCG4.out) info_got (by simp) (by simp [Value.oneCell']) ?_; intro w9 hC9 hg9 hs9))
                  have hC : Cel w9 w.heap.size 79 3 (fun i => (#[.slice none 0 0, .int .i64 0, .int .i64 4] : Array Value).getD i undef) := hC9.congr fun i hi => by rw [if_pos ⟨by omega, by omega⟩, Nat.sub_zero]
                  have HB9 := Lib.hid ((HB4.out).grown hg9 (HB4.out).size (fun k hk => by injection hk with hk; omega))
                  exact bodyPost_ret (v := .agg #[.slice none 0 0, .int .i64 0, .int .i64 4]) (results_cel rfl _ rfl hC Try.underlying79 rfl info_got (Nat.le_refl 3) (fun j hj => getSome hj)) rfl (got_no HM4.out (by decide) HB9.out)
                · have d4 : decide ((bs.length : Int) - 2 - (nx : Int) < 4) = false := decide_eq_false (by omega)
                  have HM4 := Lib.hid (HM3.out.trans (if_neg h4))
                  clear HM3
                  obtain ⟨n4, hn4⟩ : ∃ n4, n + 4 = n4 := ⟨_, rfl⟩
                  have en8 : IntKind.i64.wrap ((n : Int) + 4) = (n4 : Int) := by rw [IntWalk.i64_in _ (by omega)]; omega
                  have r0 : (n : Int) ≤ (n4 : Int) := by omega
                  have r1 : (n4 : Int) ≤ (c : Int) := by omega
                  have r2 : n4 - n = 4 := by omega
                  have r3 : ¬ c = n := by omega
                  have HN4 : Hid (n4 ≤ bs.length) := Lib.hid (by omega)
                  have HNN := Lib.hid hn4
                  have hy : ∀ j, j < 4 → 0 ≤ bs.getD (n + j) 0 ∧ bs.getD (n + j) 0 < 256 := fun j _ => getD_byte hb (n + j)
                  have hcy : ∀ j, j < 4 → ((w3.alloc (.cells #[.slice Ao ox.length co, .int .i64 nx, .int .i64 0] 79)).drew).cell? ⟨b, o + n + j, none⟩ = some (.int .u8 (bs.getD (n + j) 0)) := fun j hj => by
                    have h1 := (HBB4.out.cell (p := ⟨b, o + (n + j), none⟩) HBQ.out).trans (HCQ.out (n + j) (by omega))
                    rw [Nat.add_assoc]
                    exact h1
                  have hG := getR_any b (o + n) (c - n) (fun j => bs.getD (n + j) 0) _ hcy hy
                  have hyy : getTo (fun j => bs.getD (n + j) 0) 4 = be32 bs n := by
                    simp only [getTo, be32, Nat.add_zero]
                    omega
                  rw [hyy] at hG
                  have hbe : 0 ≤ be32 bs n ∧ be32 bs n < 4294967296 := by
                    have h0 := hy 0 (by omega)
                    have h1 := hy 1 (by omega)
                    have h2 := hy 2 (by omega)
                    have h3 := hy 3 (by omega)
                    simp only [Nat.add_zero] at h0
                    unfold be32
                    omega
                  have hIo : Ints .u8 (w3.alloc (.cells #[.slice Ao ox.length co, .int .i64 nx, .int .i64 0] 79)) Ao ox := OwnS.ints HO4.out
                  have hIo2 : Ints .u8 (w3.alloc (.cells #[.slice Ao ox.length co, .int .i64 nx, .int .i64 0] 79)).drew Ao ox := OwnS.ints HO4.out.drew
                  have hr := run_str_ints (P := Try.prog) 22 9 5 Try.underlying22 Try.underlying5 Try.underlying9 Ao co ox hIo2
                  have hA := refAdler_any (strOfNums ox) (w3.alloc (.cells #[.slice Ao ox.length co, .int .i64 nx, .int .i64 0] 79)).drew (by rw [show (strOfNums ox).size = ox.length from by rw [← bytesOf_len, bytesOf_str ox HOB.out]]; omega)
                  rw [bytesOf_str ox HOB.out] at hA
                  obtain ⟨ad, had⟩ : ∃ ad, adlerV ox = ad := ⟨_, rfl⟩
                  have had2 : (adTo (1, 0) ox).2 * 65536 + (adTo (1, 0) ox).1 = ad := had
                  rw [had2] at hA
                  rw [had] at HM4
                  have had3 : IntKind.u64.wrap ad = ad := IntWalk.u64_in _ (by have h2 := adTo_ok (1, 0) ox (by unfold AdOk; decide); unfold AdOk at h2; rw [← had2]; omega)
                  have HG := Lib.hid hG
                  have HA := Lib.hid (hA.mono (fun _ _ h => ⟨h.1, h.2.symm⟩) : Calls Try.prog 81 #[.string (strOfNums ox)] (w3.alloc (.cells #[.slice Ao ox.length co, .int .i64 nx, .int .i64 0] 79)).drew fun e w' => e = .returned (.int .u32 ad) ∧ w' = (w3.alloc (.cells #[.slice Ao ox.length co, .int .i64 nx, .int .i64 0] 79)).drew)
                  clear hG hA had had2 hIo hIo2 hcy hy hyy hn hn4 hbe
                  generalize be32 bs n = yy at *
                  generalize strOfNums ox = SS at *
                  go_wp2
                  have HCN2 := Lib.hid HCN.out.drew
                  have HCG5 := Lib.hid HCG4.out.drew
                  have HB5 := Lib.hid (Below.drewN HB4.out 1)
                  have HO5 := Lib.hid HO4.out.drew
                  generalize hW5 : w3.alloc (.cells #[.slice Ao ox.length co, .int .i64 nx, .int .i64 0] 79) = w5 at *
                  generalize hP5 : w3.heap.size = p5 at *
                  refine wp_region_still_lit (by kernel_rfl) (by kernel_rfl) ?_
                  obtain ⟨wq5, hwq5⟩ : ∃ wq5, w5.drew = wq5 := ⟨_, rfl⟩
                  have hlit : ({ w5 with drawn := w5.drawn + 1 } : World) = wq5 := hwq5
                  have hB5' : Below w.heap.size w wq5 := by rw [← hwq5]; exact HB5.out
                  have HB6 := Lib.hid hB5'
                  rw [hwq5] at HG HA hr HCN2 HCG5 HO5
                  simp only [hlit]
                  clear hlit hwq5 hB5' HB5 HCN HCG4 HB4 HO4 HBB4 d4
                  have k5 := HCN2.out.cell 0 (by decide)
                  have k5' : wq5.cell? ⟨p5, 0, none⟩ = some (.slice Ao ox.length co) := k5
                  clear k5
                  repeat still_step
                  still_call HG.out
                  repeat still_step
                  still_call HA.out
                  repeat still_step
                  refine wpStill_nil ?_
                  by_cases hyy : yy = ad
                  · have e5 : (yy != ad) = false := by simpa using hyy
                    have HM5 := Lib.hid (HM4.out.trans (if_neg (fun h => h hyy)))
                    clear HM4 hyy
                    simp only [e5]
                    go_wp2_with (go_loud (refine wpList_store_part (vs := #[.slice Ao ox.length co, .int .i64 n4, .int .i64 0]) (off := 0) rfl (.tmp 4) (.tmp 81) rfl rfl rfl (HCG5.out) info_got (by simp) (by simp [Value.oneCell']) ?_; intro w9 hC9 hg9 hs9))
                    have hC : Cel w9 w.heap.size 79 3 (fun i => (#[.slice Ao ox.length co, .int .i64 n4, .int .i64 0] : Array Value).getD i undef) := hC9.congr fun i hi => by rw [if_pos ⟨by omega, by omega⟩, Nat.sub_zero]
                    have HB9 := Lib.hid ((HB6.out).grown hg9 (HB6.out).size (fun k hk => by injection hk with hk; omega))
                    have HO9 := Lib.hid (HO5.out.kept hg9 (.inr fun hk => by have h1 := (HO5.out.lt w.heap.size hk).1; have h2 := HO3G.out w.heap.size hk; omega))
                    exact bodyPost_ret (v := .agg #[.slice Ao ox.length co, .int .i64 n4, .int .i64 0]) (results_cel rfl _ rfl hC Try.underlying79 rfl info_got (Nat.le_refl 3) (fun j hj => getSome hj)) rfl (got_ok (HM5.out.trans (by rw [HNN.out])) HB9.out (HO9.out) hl3 HN4.out HOB.out)
                  · have e5 : (yy != ad) = true := by simpa using hyy
                    have HM5 := Lib.hid (HM4.out.trans (if_pos hyy))
                    clear HM4 hyy
                    simp only [e5]
                    go_wp2_with (go_loud (refine wpList_store_part (vs := #[.slice none 0 0, .int .i64 0, .int .i64 6]) (off := 0) rfl (.tmp 4) (.tmp 76) rfl rfl rfl (HCG5.out) info_got (by simp) (by simp [Value.oneCell']) ?_; intro w9 hC9 hg9 hs9))
                    have hC : Cel w9 w.heap.size 79 3 (fun i => (#[.slice none 0 0, .int .i64 0, .int .i64 6] : Array Value).getD i undef) := hC9.congr fun i hi => by rw [if_pos ⟨by omega, by omega⟩, Nat.sub_zero]
                    have HB9 := Lib.hid ((HB6.out).grown hg9 (HB6.out).size (fun k hk => by injection hk with hk; omega))
                    exact bodyPost_ret (v := .agg #[.slice none 0 0, .int .i64 0, .int .i64 6]) (results_cel rfl _ rfl hC Try.underlying79 rfl info_got (Nat.le_refl 3) (fun j hj => getSome hj)) rfl (got_no HM5.out (by decide) HB9.out)
              · have d5 : (ex == 0) = false := by simpa using hx0
                have d6 : (ex != 0) = true := by simpa using hx0
                obtain rfl := hbad hx0
                have HM3 := Lib.hid (HM2.out.trans (if_pos hx0))
                have hB4 := HBB3.out.alloc HBB3.out.size (.cells #[.slice none 0 0, .int .i64 0, .int .i64 ex] 79)
                have HB4 := Lib.hid (HBQ0.out.trans (hB4.mono HBQ0.out.size))
                have HCG4 := Lib.hid (HCG.out.below hB4 (by have := HSQ.out; omega))
                clear hbad hgood HM2 hB4
                (try simp only)
                go_wp2_with (go_loud (refine wpList_store_part (vs := #[.slice none 0 0, .int .i64 0, .int .i64 ex]) (off := 0) rfl (.tmp 4) (.tmp 52) rfl rfl rfl (HCG4.out) info_got (by simp) (by simp [Value.oneCell']) ?_; intro w9 hC9 hg9 hs9))
                have hC : Cel w9 w.heap.size 79 3 (fun i => (#[.slice none 0 0, .int .i64 0, .int .i64 ex] : Array Value).getD i undef) := hC9.congr fun i hi => by rw [if_pos ⟨by omega, by omega⟩, Nat.sub_zero]
                have HB9 := Lib.hid ((HB4.out).grown hg9 (HB4.out).size (fun k hk => by injection hk with hk; omega))
                exact bodyPost_ret (v := .agg #[.slice none 0 0, .int .i64 0, .int .i64 ex]) (results_cel rfl _ rfl hC Try.underlying79 rfl info_got (Nat.le_refl 3) (fun j hj => getSome hj)) rfl (got_no HM3.out hx0 HB9.out)
          · have e4 : (x1 / 32 % 2 * 32 != 0) = true := by rw [show x1 / 32 % 2 = 1 by omega]; rfl
            have HM2 : Hid (ZM = (3, 0, [])) := Lib.hid (HM.out.trans (if_pos (by unfold headB; omega)))
            clear HM g1 g2 g3 g4
            go_enter Try.func46, Try.ntmps46
            go_wp2
            (try simp only [hwg])
            go_quiet (fail)
            go_wp2_with (go_loud (refine wpList_store_part (vs := #[.slice none 0 0, .int .i64 0, .int .i64 3]) (off := 0) rfl (.tmp 4) (.tmp 44) rfl rfl rfl (HC0.out.drewN nq) info_got (by simp) (by simp [Value.oneCell']) ?_; intro w9 hC9 hg9 hs9))
            have hC : Cel w9 w.heap.size 79 3 (fun i => (#[.slice none 0 0, .int .i64 0, .int .i64 3] : Array Value).getD i undef) := hC9.congr fun i hi => by rw [if_pos ⟨by omega, by omega⟩, Nat.sub_zero]
            have HB9 := Lib.hid ((Below.drewN HB0.out nq).grown hg9 (Below.drewN HB0.out nq).size (fun k hk => by injection hk with hk; omega))
            exact bodyPost_ret (v := .agg #[.slice none 0 0, .int .i64 0, .int .i64 3]) (results_cel rfl _ rfl hC Try.underlying79 rfl info_got (Nat.le_refl 3) (fun j hj => getSome hj)) rfl (got_no HM2.out (by decide) HB9.out)
        · have e3 : ((x0 * 256 + x1) % 31 != 0) = true := by simpa using g3
          have HM2 : Hid (ZM = (3, 0, [])) := Lib.hid (HM.out.trans (if_pos (by unfold headB; omega)))
          clear HM g1 g2 g3
          go_enter Try.func46, Try.ntmps46
          go_wp2
          (try simp only [hwg])
          go_quiet (fail)
          go_wp2_with (go_loud (refine wpList_store_part (vs := #[.slice none 0 0, .int .i64 0, .int .i64 3]) (off := 0) rfl (.tmp 4) (.tmp 44) rfl rfl rfl (HC0.out.drewN nq) info_got (by simp) (by simp [Value.oneCell']) ?_; intro w9 hC9 hg9 hs9))
          have hC : Cel w9 w.heap.size 79 3 (fun i => (#[.slice none 0 0, .int .i64 0, .int .i64 3] : Array Value).getD i undef) := hC9.congr fun i hi => by rw [if_pos ⟨by omega, by omega⟩, Nat.sub_zero]
          have HB9 := Lib.hid ((Below.drewN HB0.out nq).grown hg9 (Below.drewN HB0.out nq).size (fun k hk => by injection hk with hk; omega))
          exact bodyPost_ret (v := .agg #[.slice none 0 0, .int .i64 0, .int .i64 3]) (results_cel rfl _ rfl hC Try.underlying79 rfl info_got (Nat.le_refl 3) (fun j hj => getSome hj)) rfl (got_no HM2.out (by decide) HB9.out)
    · have e1 : (x0 % 16 != 8) = true := by simpa using g1
      have HM2 : Hid (ZM = (3, 0, [])) := Lib.hid (HM.out.trans (if_pos (by unfold headB; omega)))
      clear HM g1
      go_enter Try.func46, Try.ntmps46
      go_wp2
      (try simp only [hwg])
      go_quiet (fail)
      go_wp2_with (go_loud (refine wpList_store_part (vs := #[.slice none 0 0, .int .i64 0, .int .i64 3]) (off := 0) rfl (.tmp 4) (.tmp 44) rfl rfl rfl (HC0.out.drewN nq) info_got (by simp) (by simp [Value.oneCell']) ?_; intro w9 hC9 hg9 hs9))
      have hC : Cel w9 w.heap.size 79 3 (fun i => (#[.slice none 0 0, .int .i64 0, .int .i64 3] : Array Value).getD i undef) := hC9.congr fun i hi => by rw [if_pos ⟨by omega, by omega⟩, Nat.sub_zero]
      have HB9 := Lib.hid ((Below.drewN HB0.out nq).grown hg9 (Below.drewN HB0.out nq).size (fun k hk => by injection hk with hk; omega))
      exact bodyPost_ret (v := .agg #[.slice none 0 0, .int .i64 0, .int .i64 3]) (results_cel rfl _ rfl hC Try.underlying79 rfl info_got (Nat.le_refl 3) (fun j hj => getSome hj)) rfl (got_no HM2.out (by decide) HB9.out)
end Go.Proofs.Ytoeipgbnjcgbjaa
