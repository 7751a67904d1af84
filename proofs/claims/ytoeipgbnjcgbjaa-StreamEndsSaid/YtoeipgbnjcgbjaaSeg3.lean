/- Walk: Parse of package stream. -/
import Derived.Test.YtoeipgbnjcgbjaaSeg1
namespace Go.Proofs.Ytoeipgbnjcgbjaa
open Go.RowKit
set_option linter.unusedVariables false

def zeroSeg : Value := .agg #[.int .i64 0, .int .i64 0, .int .i64 0, .int .i64 0, .slice none 0 0]
theorem Ints.drop {k : IntKind} {w : World} {b o : Nat} {xs : List Int} (h : Ints k w (some ⟨b, o, none⟩) xs) (n : Nat) : Ints k w (some ⟨b, o + n, none⟩) (xs.drop n) := by
  intro hl
  rw [List.length_drop] at hl
  obtain ⟨b', o', hA, hlt, hc⟩ := h (by omega)
  injection hA with hA
  injection hA with h1 h2 _
  subst h1; subst h2
  refine ⟨b, o + n, rfl, hlt, fun j hj => ?_⟩
  rw [List.length_drop] at hj
  rw [Nat.add_assoc, hc (n + j) (by omega)]
  simp [List.getD_eq_getElem?_getD]
/-- What Parse leaves of bytes that are no segment. -/
def ParseNo (w : World) (e : Ending) (w' : World) : Prop := e = .returned (.tuple #[zeroSeg, .bool false]) ∧ Below w.heap.size w w'
def zeroVs : Array Value := #[.int .i64 0, .int .i64 0, .int .i64 0, .int .i64 0, .slice none 0 0]
theorem getD_some {vs : Array Value} {j : Nat} (hj : j < vs.size) : vs[j]? = some (vs.getD j undef) := by
  rw [Array.getD_eq_getD_getElem?, Array.getElem?_eq_getElem hj]; rfl
theorem info_seg : (Try.prog.info? 24).map (·.size) = some 5 := by kernel_rfl
theorem cel_zero (w : World) : Cel (w.alloc (.cells #[.int .i64 0, .int .i64 0, .int .i64 0, .int .i64 0, .slice none 0 0] 24)) w.heap.size 24 5 (fun i => zeroVs.getD i undef) :=
  Cel.new w _ zeroVs _ (fun i hi => getD_some hi)
theorem cel_stored {w : World} {g : Nat} {vs : Array Value} {f : Nat → Value} (hs : vs.size = 5) (h : Cel w g 24 5 (fun j => if 0 ≤ j ∧ j < 0 + vs.size then vs.getD (j - 0) undef else f j)) : Cel w g 24 5 (fun i => vs.getD i undef) :=
  h.congr fun i hi => by rw [if_pos ⟨by omega, by omega⟩, Nat.sub_zero]

set_option maxRecDepth 100000 in
set_option maxHeartbeats 4000000 in
theorem parse_long (A : Option Addr) (n c : Nat) (w : World) (h : n < 19 ∨ 419 < n) (hsz : n ≤ 140737488355000) :
    Calls Try.prog 15 #[.slice A n c] w (ParseNo w) := by
  have hC := cel_zero w
  have hB : Below w.heap.size w (w.alloc (.cells #[.int .i64 0, .int .i64 0, .int .i64 0, .int .i64 0, .slice none 0 0] 24)) := (Below.refl _ _).alloc (Nat.le_refl _) _
  rcases h with h | h
  · have d0 : decide ((n : Int) - 15 - 4 < 0) = true := by simp; omega
    go_enter Try.func15, Try.ntmps15
    go_wp2
    go_quiet (fail)
    go_wp2_with (refine wpList_store_part (vs := zeroVs) (off := 0) rfl (.tmp 2) (.tmp 55) rfl rfl rfl (hC.drewN nq) info_seg (by decide) (by simp [zeroVs, Value.oneCell']) ?_; intro w2 hC2 hg2 hs2; have hC3 := cel_stored rfl hC2)
    exact bodyPost_ret (v := .tuple #[zeroSeg, .bool false]) (results_cel2 rfl _ _ rfl rfl hC3 Try.underlying24 rfl info_seg (by decide) (fun j hj => getD_some hj)) rfl ⟨rfl, (Below.drewN hB nq).grown hg2 (by simp) (fun k h => by injection h with h; omega)⟩
  · have d0 : decide ((n : Int) - 15 - 4 < 0) = false := by simp; omega
    have d1 : decide ((400 : Int) < (n : Int) - 15 - 4) = true := by simp; omega
    go_enter Try.func15, Try.ntmps15
    go_wp2
    go_quiet (fail)
    go_wp2_with (refine wpList_store_part (vs := zeroVs) (off := 0) rfl (.tmp 2) (.tmp 55) rfl rfl rfl (hC.drewN nq) info_seg (by decide) (by simp [zeroVs, Value.oneCell']) ?_; intro w2 hC2 hg2 hs2; have hC3 := cel_stored rfl hC2)
    exact bodyPost_ret (v := .tuple #[zeroSeg, .bool false]) (results_cel2 rfl _ _ rfl rfl hC3 Try.underlying24 rfl info_seg (by decide) (fun j hj => getD_some hj)) rfl ⟨rfl, (Below.drewN hB nq).grown hg2 (by simp) (fun k h => by injection h with h; omega)⟩

set_option maxRecDepth 100000 in
set_option maxHeartbeats 4000000 in
theorem parse_head (A : Option Addr) (n c N : Nat) (bs : List Int) (w : World) (hI : Ints .u8 w A bs) (hn : bs.length = n) (hN : n = N + 19) (h4 : N ≤ 400) (hb : Bytes bs) (hc : n ≤ c) (hcm : c ≤ 9223372036854775807)
    (hbad : bs.getD 13 0 * 256 + bs.getD 14 0 ≠ N ∨ bs.getD 0 0 < 1 ∨ 5 < bs.getD 0 0) :
    Calls Try.prog 15 #[.slice A n c] w (ParseNo w) := by
  have hC := cel_zero w
  have hB : Below w.heap.size w (w.alloc (.cells #[.int .i64 0, .int .i64 0, .int .i64 0, .int .i64 0, .slice none 0 0] 24)) := (Below.refl _ _).alloc (Nat.le_refl _) _
  obtain ⟨b, o, rfl, hlt, hcell⟩ := (hI.below hB) (by omega)
  have c13 := hcell 13 (by omega)
  have c14 := hcell 14 (by omega)
  have c0 := hcell 0 (by omega)
  rw [Nat.add_zero] at c0
  have x13 := hb.at_ 13 (by omega)
  have x14 := hb.at_ 14 (by omega)
  have x0 := hb.at_ 0 (by omega)
  clear hcell hI hb
  generalize bs.getD 13 0 = b13 at *
  generalize bs.getD 14 0 = b14 at *
  generalize bs.getD 0 0 = b0 at *
  have l13 : (13 : Int) < n := by omega
  have l14 : (14 : Int) < n := by omega
  have l0 : (0 : Int) < n := by omega
  have hor := i64_num2 b13 b14 x13 x14
  have hw : IntKind.i64.wrap (b13 * 256) = b13 * 256 := IntWalk.i64_in _ (by omega)
  have dN : decide ((N : Int) < 0) = false := by simp
  have d4 : decide ((400 : Int) < (N : Int)) = false := by simp; omega
  have HN := Lib.hid hN
  clear hn hN
  generalize hwb : w.alloc (.cells #[.int .i64 0, .int .i64 0, .int .i64 0, .int .i64 0, .slice none 0 0] 24) = wb at *
  have HW := Lib.hid hwb
  clear hwb
  go_enter Try.func15, Try.ntmps15
  go_upto_region 1 with (fail)
  go_cut [4] (fun v4 wx => v4 = .int .i64 (N : Int) ∧ wx = wb)
  case first =>
    go_wp2
    go_meet
    have h1 := HN.out
    have h2 := HW.out
    exact ⟨by congr 1; omega, h2⟩
  case rest =>
    obtain ⟨rfl, rfl⟩ := hcut
    have ways : ((b13 * 256 + b14 != (N : Int)) = true) ∨ ((b13 * 256 + b14 != (N : Int)) = false ∧ decide (b0 < 1) = true) ∨ ((b13 * 256 + b14 != (N : Int)) = false ∧ decide (b0 < 1) = false ∧ decide (5 < b0) = true) := by
      by_cases a : b13 * 256 + b14 = N
      · right
        have a' : (b13 * 256 + b14 != (N : Int)) = false := by simpa using a
        by_cases q : b0 < 1
        · exact .inl ⟨a', by simpa using q⟩
        · exact .inr ⟨a', by simpa using q, by simp; omega⟩
      · exact .inl (by simpa using a)
    clear hbad
    rcases ways with h1 | ⟨h1, h2⟩ | ⟨h1, h2, h3⟩
    all_goals
      go_wp2
      go_quiet (fail)
      go_wp2_with (refine wpList_store_part (vs := zeroVs) (off := 0) rfl (.tmp 2) (.tmp 55) rfl rfl rfl (hC.drewN nq) info_seg (by decide) (by simp [zeroVs, Value.oneCell']) ?_; intro w2 hC2 hg2 hs2; have hC3 := cel_stored rfl hC2)
      exact bodyPost_ret (v := .tuple #[zeroSeg, .bool false]) (results_cel2 rfl _ _ rfl rfl hC3 Try.underlying24 rfl info_seg (by decide) (fun j hj => getD_some hj)) rfl ⟨rfl, (Below.drewN hB nq).grown hg2 hB.size (fun k h => by injection h with h; omega)⟩
end Go.Proofs.Ytoeipgbnjcgbjaa
