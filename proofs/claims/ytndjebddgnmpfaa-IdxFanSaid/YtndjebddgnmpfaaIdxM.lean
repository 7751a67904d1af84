/- idx.Build walked. -/
import Derived.Test.YtndjebddgnmpfaaIdxHL
import Derived.Test.YtndjebddgnmpfaaIdxB
import Derived.Test.YtndjebddgnmpfaaIdxE
import Derived.Lib.SlBytesConst
namespace Go.Proofs.Ytndjebddgnmpfaa
open Go.RowKit
set_option linter.unusedVariables false
set_option linter.unusedSimpArgs false

/-- What Build tells. -/
def BuildPost (L : List El) (p : ByteArray) (w : World) (e : Ending) (w' : World) : Prop :=
  Below w.heap.size w w' ∧ (¬ BuildOk L p → e = .returned (.tuple #[.slice none 0 0, .int .i64 1])) ∧
  (BuildOk L p → ∃ A, e = .returned (.tuple #[.slice A (buildL (Srt.isort ltE L) (unV (bytesOf p))).length (buildL (Srt.isort ltE L) (unV (bytesOf p))).length, .int .i64 0]) ∧ Ints .u8 w' A (buildL (Srt.isort ltE L) (unV (bytesOf p))))
theorem BuildPost.no {L : List El} {p : ByteArray} {w w' : World} (h : ¬ BuildOk L p) (hb : Below w.heap.size w w') : BuildPost L p w (.returned (.tuple #[.slice none 0 0, .int .i64 1])) w' :=
  ⟨hb, fun _ => rfl, fun h' => absurd h' h⟩
/-- The counts of first bytes. -/
def cntF (S : List El) (j : Nat) : Value := .int .i64 (cntEq S (j : Int) : Nat)
theorem cnt_new (w : World) : Cel (w.alloc (.cells Try.zeroCells58 58)) w.heap.size 58 256 (cntF []) := by
  rw [fan_zero]
  refine ⟨_, heap_alloc_new w _, by simp, fun i hi => ?_⟩
  simp [cntF, cntEq, hi]
theorem elA_new (w : World) (x : El) : Cel (w.alloc (.cells #[.int .i64 0, .slice none 0 0, .string ⟨#[]⟩, .int .i64 0, .int .u32 0] 30)) w.heap.size 30 5 (entF zEnt) :=
  Cel.new w _ (entA zEnt) _ (fun i hi => entA_at zEnt i hi)
def elF (x : El) (i : Nat) : Value := (encE x).getD i undef
/-- What is kept beside the rows of bytes: the counts, the objects, the object at hand. -/
structure KB (W : World) (cg : Nat) (A1 : Option Addr) (N c1 : Nat) (S : List El) (f : Nat → Value) (og : Nat) (x : El) (w : World) : Prop where
  cnt : Cel w cg 58 256 f
  row : OwnS w W.heap.size 30 5 (.slice A1 N c1) N (S.flatMap encE)
  obj : Cel w og 30 5 (elF x)
theorem KB.grown {W w w' : World} {cg N c1 og : Nat} {A1 : Option Addr} {S : List El} {f : Nat → Value} {x : El} (h : KB W cg A1 N c1 S f og x w) {L : List (Value × List Int)} (hB : Bufs W w L) (i : Nat) {v : Value} {xs : List Int} (hi : L[i]? = some (v, xs)) (hg : w.grownBy w' v.ownBlock) : KB W cg A1 N c1 S f og x w' :=
  ⟨hB.kept i hi hg h.cnt (by decide), hB.keptRow i hi hg h.row (by decide), hB.kept i hi hg h.obj (by decide)⟩
theorem KB.below {W w w' : World} {cg N c1 og : Nat} {A1 : Option Addr} {S : List El} {f : Nat → Value} {x : El} (h : KB W cg A1 N c1 S f og x w) (hb : Below w.heap.size w w') : KB W cg A1 N c1 S f og x w' :=
  ⟨h.cnt.below hb h.cnt.blk, h.row.chg (Chg.of_below (S := fun _ => False) hb) (fun _ _ h => h), h.obj.below hb h.obj.blk⟩
theorem KB.drew {W w : World} {cg N c1 og : Nat} {A1 : Option Addr} {S : List El} {f : Nat → Value} {x : El} (h : KB W cg A1 N c1 S f og x w) : KB W cg A1 N c1 S f og x w.drew := h.below (Below.refl _ _).drew
/-- An element of an array value. -/
theorem run_index_int {P : Program} (w : World) (t e : TypeId) (n : Nat) (cs : Array Value) (i : Nat) (v : Value) (i0 : TypeInfo) (ht : P.underlying t = some (.array n e)) (he : P.underlying e = some (.int .i64)) (hi : P.info? e = some i0) (hs : i0.size = 1) (hin : i < n) (hc : cs[i]? = some v) :
    (Instr.index t (.agg cs) (.int .i64 (i : Int))).run P w = .ok v w := by
  have h1 : (0 : Int) ≤ (i : Int) := by omega
  simp [Instr.index, asIntOf, run_underlying ht, h1, hin, sizeOf, typeInfo, hi, hs, part, isAgg, run_underlying he, hc]
/-- A row of slices that is new. -/
theorem row_cells (w : World) (t : TypeId) (R : List (Option Addr × Nat × List Int)) (h : ∀ r ∈ R, Ints .u8 w r.1 r.2.2) (j : Nat) (A : Option Addr) (c : Nat) (xs : List Int) (hj : R[j]? = some (A, c, xs)) :
    (w.alloc (.cells (R.map fun r => Value.slice r.1 r.2.2.length r.2.1).toArray t)).cell? ⟨w.heap.size, 0 + j, none⟩ = some (.slice A xs.length c) ∧ Ints .u8 (w.alloc (.cells (R.map fun r => Value.slice r.1 r.2.2.length r.2.1).toArray t)) A xs := by
  refine ⟨?_, (h _ (List.mem_of_getElem? hj)).below ((Below.refl _ _).alloc (Nat.le_refl _) _)⟩
  rw [cell_of_row _ _ _ _ _ _ (heap_alloc_new w _), Nat.zero_add]
  simp [hj]
theorem OwnS.capMax {w : World} {base n c size : Nat} {e : TypeId} {A : Option Addr} {xs : List Value} (h : OwnS w base e size (.slice A n c) n xs) : c ≤ 9223372036854775807 := by
  rcases h.2 with ⟨hv, _⟩ | ⟨g', off, cap, cur, hv, _, _, _, hm, _⟩
  · injection hv with _ _ hc; omega
  · injection hv with _ _ hc
    unfold maxLen at hm
    omega
def cntA (S : List El) : Array Value := (Array.range 256).map (cntF S)
theorem cntA_size (S : List El) : (cntA S).size = 256 := by simp [cntA]
theorem cntA_at (S : List El) (j : Nat) (hj : j < 256) : (cntA S)[j]? = some (cntF S j) := by simp [cntA, hj]
theorem cntA_info (S : List El) : (Try.prog.info? 58).map (·.size) = some (cntA S).size := by rw [cntA_size]; kernel_rfl
theorem Try.info_i64 : (Try.prog.info? 3).map (fun i => (i.zero, i.size, i.bytes)) = some (some (.int .i64 0), 1, 8) := by kernel_rfl
set_option maxRecDepth 100000 in
set_option maxHeartbeats 8000000 in
theorem iBuild_any (A0 : Option Addr) (N c0 : Nat) (L : List El) (p : ByteArray) (W : World) (hO : ObE W A0 L) (hN : L.length = N) (hA : A0 = none → N = 0) (hsz : N ≤ 2199023255552) (hcr : ∀ x ∈ L, 0 ≤ x.crc ∧ x.crc < 4294967296) (hid : ∀ x ∈ L, x.id.size ≤ 140737488355328) (hp : p.size ≤ 140737488355328) :
    Calls Try.prog 9 #[.slice A0 N c0, .string p] W (BuildPost L p W) := by
  have HCL := Lib.hid (cloneObj_any A0 N c0 L W hO hN hA hsz)
  have HN := Lib.hid hN
  have HCR := Lib.hid hcr
  have HID := Lib.hid hid
  have HP := Lib.hid hp
  clear hO hN hA hcr hid hp
  go_enter Try.func9, Try.ntmps9
  go_wp2_with fail
  refine HCL.out.mono ?_
  rintro e w1 ⟨v1, rfl, ho1, hb1⟩
  have HSO := Lib.hid (sortObj_any v1 N W.heap.size L w1 ho1 (by omega))
  have HV1 := Lib.hid ho1
  have HB1 := Lib.hid hb1
  clear ho1 hb1 HCL
  go_wp2_with fail
  refine HSO.out.mono ?_
  rintro e w2 ⟨rfl, ho2, hc2⟩
  have HB2 : Hid (Below W.heap.size W w2) := Lib.hid (HB1.out.trans (hc2.below HB1.out.size (fun k hk hs => by have := (HV1.out.lt k hs).1; omega)))
  obtain ⟨A1, c1, rfl⟩ := ho2.shape
  have HO2 := Lib.hid ho2
  clear ho2 hc2 HSO HV1 HB1
  by_cases hlen : N ≤ 4096
  case neg =>
    have d1 : decide ((4096 : Int) < (N : Int)) = true := decide_eq_true (by omega)
    have d1' : decide (4096 < N) = true := decide_eq_true (by omega)
    go_wp2
    go_ret2
    exact BuildPost.no (fun h => hlen (by rw [← HN.out]; exact h.1)) HB2.out
  case pos =>
    have d1 : decide ((4096 : Int) < (N : Int)) = false := decide_eq_false (by omega)
    have d1' : decide (4096 < N) = false := decide_eq_false (by omega)
    have HH := Lib.hid (hash_any p w2 HP.out)
    go_wp2_with fail
    refine HH.out.mono ?_
    rintro e w3 ⟨rfl, hb3⟩
    have HB3 : Hid (Below W.heap.size W w3) := Lib.hid (HB2.out.trans (hb3.mono HB2.out.size))
    have HO3 := Lib.hid (HO2.out.chg (Chg.of_below (S := fun _ => False) hb3) (fun _ _ h => h))
    clear hb3 HB2 HO2 HH
    cases hph : hashB (bytesOf p)
    · go_wp2
      go_ret2
      exact BuildPost.no (fun h => by have := h.2.1; rw [hph] at this; cases this) HB3.out
    · have HPH := Lib.hid hph
      clear hph
      have HSL : Hid ((Srt.isort ltE L).length = N) := Lib.hid (by rw [Srt.isort_length, HN.out])
      have HSC : Hid (∀ x ∈ Srt.isort ltE L, (0 ≤ x.crc ∧ x.crc < 4294967296) ∧ x.id.size ≤ 140737488355328) := Lib.hid (fun x hx => ⟨HCR.out x (Srt.mem_isort.1 hx), HID.out x (Srt.mem_isort.1 hx)⟩)
      have HOK : Hid (BuildOk L p ↔ GoodS (Srt.isort ltE L)) := Lib.hid ⟨fun h => h.2.2, fun h => ⟨by rw [HN.out]; exact hlen, HPH.out, h⟩⟩
      have HQ : Hid (∀ e w', BuildPost L p W e w' ↔ (Below W.heap.size W w' ∧ (¬ BuildOk L p → e = .returned (.tuple #[.slice none 0 0, .int .i64 1])) ∧ (BuildOk L p → ∃ A, e = .returned (.tuple #[.slice A (buildL (Srt.isort ltE L) (unV (bytesOf p))).length (buildL (Srt.isort ltE L) (unV (bytesOf p))).length, .int .i64 0]) ∧ Ints .u8 w' A (buildL (Srt.isort ltE L) (unV (bytesOf p)))))) := Lib.hid (fun e w' => Iff.rfl)
      generalize BuildPost L p W = POST at *
      generalize BuildOk L p = OK at *
      generalize Srt.isort ltE L = S at *
      clear HCR HID HN
      have kc := fun (w : World) (C : Array Value) (n c : Nat) => Lib.run_convert_bytes_const (P := Try.prog) w 24 5 C n c Try.underlying24 Try.underlying5
      go_upto_region 8 with (fail)
      go_wp2
      have hlA : Below W.heap.size W (w3.alloc (.cells #[.int .u8 255, .int .u8 116, .int .u8 79, .int .u8 99, .int .u8 0, .int .u8 0, .int .u8 0, .int .u8 2] 5 (8, 9))) := HB3.out.trans (((Below.refl _ _).alloc (Nat.le_refl _) _).mono HB3.out.size)
      have hoA : OwnS (w3.alloc (.cells #[.int .u8 255, .int .u8 116, .int .u8 79, .int .u8 99, .int .u8 0, .int .u8 0, .int .u8 0, .int .u8 2] 5 (8, 9))) W.heap.size 5 1 (.slice (some ⟨w3.heap.size, 0, none⟩) 8 8) 8 (beginL.map (Value.int .u8)) :=
        ⟨rfl, .inr ⟨_, 0, 8, _, rfl, HB3.out.size, ⟨(8, 9), heap_alloc_new w3 _, .inr (Nat.le_refl _)⟩, Nat.le_refl _, by unfold maxLen; omega, Nat.le_refl _, rfl⟩⟩
      have hBA := Bufs.first (W := W) (xs := beginL) 4 hlA hoA
      have hOA := HO3.out.alloc (.cells #[.int .u8 255, .int .u8 116, .int .u8 79, .int .u8 99, .int .u8 0, .int .u8 0, .int .u8 0, .int .u8 2] 5 (8, 9))
      have hgw : W.heap.size ≤ (w3.alloc (.cells #[.int .u8 255, .int .u8 116, .int .u8 79, .int .u8 99, .int .u8 0, .int .u8 0, .int .u8 0, .int .u8 2] 5 (8, 9))).heap.size := hlA.size
      clear hlA hoA HO3 HB3
      have hsz0 : (w3.alloc (.cells #[.int .u8 255, .int .u8 116, .int .u8 79, .int .u8 99, .int .u8 0, .int .u8 0, .int .u8 0, .int .u8 2] 5 (8, 9))).heap.size = w3.heap.size + 1 := by simp
      generalize w3.alloc (.cells #[.int .u8 255, .int .u8 116, .int .u8 79, .int .u8 99, .int .u8 0, .int .u8 0, .int .u8 0, .int .u8 2] 5 (8, 9)) = wA at *
      have hC0 := cnt_new wA
      have hl4 : Below wA.heap.size wA (wA.alloc (.cells Try.zeroCells58 58)) := (Below.refl _ _).alloc (Nat.le_refl _) _
      have hB4 := hBA.below hl4
      have hO4 := hOA.alloc (.cells Try.zeroCells58 58)
      clear hl4 hBA hOA
      generalize wA.alloc (.cells Try.zeroCells58 58) = w4 at *
      rw [hsz0] at hC0 hgw
      generalize hcg : w3.heap.size + 1 = cg at *
      generalize Value.slice (some ⟨w3.heap.size, 0, none⟩) 8 8 = vb at *
      clear hcg hsz0
      have HC0 := Lib.hid hC0
      have HB4 := Lib.hid hB4
      have HO4 := Lib.hid hO4
      clear hC0 hB4 hO4
      clear w3 wA w1 w2
      go_loopw [37, 7, 8, 9, 10] (fun vi vn vc vp vf wr => ∃ (k : Nat) (v1 v2 v3 v4 : Value), vi = .int .i64 k ∧ v1 = vn ∧ v2 = vc ∧ v3 = vp ∧ v4 = vf ∧ k ≤ N ∧ (∀ i, i < k → badAt S i = false) ∧ Bufs W wr [(vb, beginL), (v1, namesL (S.take k)), (v2, crcsL (S.take k)), (v3, placesL 0 (S.take k)), (v4, farL (S.take k))] ∧ Cel wr cg 58 256 (cntF (S.take k)) ∧ OwnS wr W.heap.size 30 5 (.slice A1 N c1) N (S.flatMap encE)) (fun vi _ _ _ _ _ => N - (intOf vi).toNat)
      case atStart => exact ⟨0, _, _, _, _, rfl, rfl, rfl, rfl, rfl, Nat.zero_le _, (fun i hi => by omega), HB4.out, HC0.out, HO4.out⟩
      case round =>
        clear HB4 HC0 HO4
        obtain ⟨k, vn, vc, vp, vf, rfl, rfl, rfl, rfl, rfl, hk, hgood, hB, hC, hO⟩ := hrel
        by_cases hlt : k < N
        case pos =>
          have hlt5 : k < S.length := by rw [HSL.out]; exact hlt
          obtain ⟨x, hx⟩ : ∃ x, S[k]? = some x := ⟨_, List.getElem?_eq_getElem hlt5⟩
          have hxm := List.mem_of_getElem? hx
          obtain ⟨g, off, rfl, hg, hcell⟩ := ObE.of_own hO (by omega)
          have r0 : wr.cell? ⟨g, off + k * 5, none⟩ = some (.int .i64 x.kind) := hcell k 0 x hx (by decide)
          have r1 : wr.cell? ⟨g, off + k * 5 + 1, none⟩ = some (.slice x.A x.n x.c) := hcell k 1 x hx (by decide)
          have r2 : wr.cell? ⟨g, off + k * 5 + 2, none⟩ = some (.string x.id) := hcell k 2 x hx (by decide)
          have r3 : wr.cell? ⟨g, off + k * 5 + 3, none⟩ = some (.int .i64 x.at_) := hcell k 3 x hx (by decide)
          have r4 : wr.cell? ⟨g, off + k * 5 + 4, none⟩ = some (.int .u32 x.crc) := hcell k 4 x hx (by decide)
          have d2 : decide ((k : Int) < (N : Int)) = true := decide_eq_true (by omega)
          have d2' : decide (k < N) = true := decide_eq_true hlt
          have HX := Lib.hid hx
          have HCE := Lib.hid hcell
          have HB := Lib.hid hB
          have HC := Lib.hid hC
          have HO := Lib.hid hO
          have HGD := Lib.hid hgood
          have hsc := HSC.out x hxm
          have hcrc := hsc.1
          have hids := hsc.2
          have hz := elA_new wr x
          clear hx hxm hcell hB hC hO hgood hlt5 hsc
          go_upto_region 11 with (fail)
          have hl5 : Below wr.heap.size wr (wr.alloc (.cells #[.int .i64 x.kind, .slice x.A x.n x.c, .string x.id, .int .i64 x.at_, .int .u32 x.crc] 30)) := (Below.refl _ _).alloc (Nat.le_refl _) _
          have hCo : Cel (wr.alloc (.cells #[.int .i64 x.kind, .slice x.A x.n x.c, .string x.id, .int .i64 x.at_, .int .u32 x.crc] 30)) wr.heap.size 30 5 (elF x) := Cel.new wr _ #[.int .i64 x.kind, .slice x.A x.n x.c, .string x.id, .int .i64 x.at_, .int .u32 x.crc] _ (fun i hi => by
            have : i < 5 := hi
            rcases i with _ | _ | _ | _ | _ | i <;> first | rfl | omega)
          have hB5 := HB.out.below hl5
          have hC5 := HC.out.below hl5 HC.out.blk
          have hO5 := HO.out.chg (Chg.of_below (S := fun _ => False) hl5) (fun _ _ h => h)
          have hOg : W.heap.size ≤ wr.heap.size := HB.out.low.size
          clear r0 r1 r2 r3 r4 HB HC HO HCE hl5 hz
          generalize wr.alloc (.cells #[.int .i64 x.kind, .slice x.A x.n x.c, .string x.id, .int .i64 x.at_, .int .u32 x.crc] 30) = w5 at *
          generalize wr.heap.size = og at *
          have k2 : w5.cell? ⟨og, 2, none⟩ = some (.string x.id) := hCo.cell 2 (by decide)
          have HU := Lib.hid (unhex_any x.id w5 hids)
          have HCO5 := Lib.hid hCo
          have HB5 := Lib.hid hB5
          have HC5 := Lib.hid hC5
          have HO5 := Lib.hid hO5
          have HIDS := Lib.hid hids
          have HCRC := Lib.hid hcrc
          clear hCo hB5 hC5 hO5 hids hcrc
          go_upto_region 12 with (go_at_call 25; refine HU.out.mono ?_; rintro e w6 ⟨Ai, ci, rfl, hIi, hb6⟩)
          have hCo := HCO5.out.below hb6 HCO5.out.blk
          have HB6 := Lib.hid (HB5.out.below hb6)
          have HC6 := Lib.hid (HC5.out.below hb6 HC5.out.blk)
          have HO6 := Lib.hid (HO5.out.chg (Chg.of_below (S := fun _ => False) hb6) (fun _ _ h => h))
          have HIi := Lib.hid hIi
          have HCO := Lib.hid hCo
          have HOB := Lib.hid hCo.blk
          have K2 : Hid (w6.cell? ⟨og, 2, none⟩ = some (.string x.id)) := Lib.hid (hCo.cell 2 (by decide))
          have K3 : Hid (w6.cell? ⟨og, 3, none⟩ = some (.int .i64 x.at_)) := Lib.hid (hCo.cell 3 (by decide))
          clear k2 HU HCO5 HB5 HC5 HO5 hIi hCo hb6
          go_cut [76] (fun v wx => (∃ bb, v = .bool bb ∧ bb = badAt S k) ∧ Below w6.heap.size w6 wx)
          case first => as_aux_lemma =>
            have HBD : Hid (badAt S k = (sameAt S k || !okO x)) := Lib.hid (badAt_some HX.out)
            cases hhv : hashB (bytesOf x.id)
            · have HHV := Lib.hid hhv
              have HOX : Hid (okO x = false) := Lib.hid (by unfold okO; rw [hhv]; rfl)
              clear hhv
              refine wp_region_ph (by kernel_rfl) [] [.span 0 0, .span 0 0, .span 0 0, .span 0 0, .span 0 0, .span 0 0, .span 0 0, .span 0 0, .span 0 0, .span 0 0, .span 0 0, .span 0 0, .span 0 0, .span 0 0, .span 0 0, .span 0 0, .span 0 0, .span 0 0, .span 0 0, .span 0 0, .span 0 0, .span 0 0, .span 0 0, .span 0 0, .span 0 0, .span 0 0, .span 0 0, .span 0 0, .span 0 0] [fun z9 => z9 = .pointer (some ⟨og, 2, none⟩), fun z9 => z9 = .string x.id, fun z9 => z9 = .bool false, fun z9 => z9 = .bool true, fun z9 => z9 = .bool true, fun z9 => z9 = undef, fun z9 => z9 = undef, fun z9 => z9 = undef, fun z9 => z9 = undef, fun z9 => z9 = undef, fun z9 => z9 = undef, fun z9 => z9 = undef, fun z9 => z9 = undef, fun z9 => z9 = undef, fun z9 => z9 = undef, fun z9 => z9 = undef, fun z9 => z9 = undef, fun z9 => z9 = undef, fun z9 => z9 = .bool true, fun z9 => z9 = .bool true, fun z9 => z9 = undef, fun z9 => z9 = undef, fun z9 => z9 = undef, fun z9 => z9 = .bool true, fun z9 => z9 = .bool true, fun z9 => z9 = undef, fun z9 => z9 = undef, fun z9 => z9 = undef, fun z9 => z9 = .bool true] ((fun _ w => Below w6.heap.size w6 w)) (by kernel_rfl) (by kernel_rfl) (by kernel_rfl) (by kernel_rfl) (by kernel_rfl) (by kernel_rfl) rfl rfl ((Below.refl _ _).drew) ?steps ?done
              case steps =>
                refine ⟨?_, ?_, ?_, ?_, ?_, ?_, ?_, ?_, ?_, ?_, ?_, ?_, ?_, ?_, ?_, ?_, ?_, ?_, ?_, ?_, ?_, ?_, ?_, ?_, ?_, ?_, ?_, ?_, ?_, trivial⟩
                · intro us au w1 k0 hlo hhi ha hd hst hI
                  obtain rfl : k0 = 0 := by omega
                  have q13 := slot_far (t := 13) (v := .pointer (some ⟨og, 0, none⟩)) ha (by kernel_rfl) (by kernel_rfl)
                  have p13 := slot_norm q13
                  clear ha hd hst
                  exact StepI.pure (v := .pointer (some ⟨og, 2, none⟩)) rfl rfl (by go_simp) ⟨rfl, hI⟩
                · intro us au w1 k1 hlo hhi ha hd hst hI
                  obtain rfl : k1 = 0 := by omega
                  have e0 := hd 0 _ (by kernel_rfl) rfl
                  have q48 := slot_at (t := 48) 0 ha (by kernel_rfl) (by kernel_rfl) (by kernel_rfl) e0
                  have p48 := slot_norm q48
                  clear ha hd hst
                  have kk := (hI.cell (p := ⟨og, 2, none⟩) HOB.out).trans K2.out
                  exact StepI.pure (v := .string x.id) rfl rfl (by go_simp) ⟨rfl, hI⟩
                · intro us au w1 k2 hlo hhi ha hd hst hI
                  obtain rfl : k2 = 0 := by omega
                  have e1 := hd 1 _ (by kernel_rfl) rfl
                  have q49 := slot_at (t := 49) 1 ha (by kernel_rfl) (by kernel_rfl) (by kernel_rfl) e1
                  have p49 := slot_norm q49
                  clear ha hd hst
                  refine StepI.call (f := 24) (args := #[.string x.id]) rfl rfl (by go_simp) ?_
                  refine (hash_any x.id w1 HIDS.out).mono ?_
                  rintro e w5 ⟨rfl, hb5⟩
                  rw [HHV.out]
                  exact ⟨_, rfl, rfl, hI.trans (hb5.mono hI.size)⟩
                · intro us au w1 k3 hlo hhi ha hd hst hI
                  obtain rfl : k3 = 0 := by omega
                  have e2 := hd 2 _ (by kernel_rfl) rfl
                  have q50 := slot_at (t := 50) 2 ha (by kernel_rfl) (by kernel_rfl) (by kernel_rfl) e2
                  have p50 := slot_norm q50
                  clear ha hd hst
                  exact StepI.pure (v := .bool true) rfl rfl (by go_simp) ⟨rfl, hI⟩
                · intro us au w1 k4 hlo hhi ha hd hst hI
                  obtain rfl : k4 = 0 := by omega
                  have e3 := hd 3 _ (by kernel_rfl) rfl
                  have q51 := slot_at (t := 51) 3 ha (by kernel_rfl) (by kernel_rfl) (by kernel_rfl) e3
                  have p51 := slot_norm q51
                  clear ha hd hst
                  exact StepI.pure (v := .bool true) rfl rfl (by go_simp) ⟨rfl, hI⟩
                · intro us au w1 k5 hlo hhi ha hd hst hI
                  obtain rfl : k5 = 0 := by omega
                  have e4 := hd 4 _ (by kernel_rfl) rfl
                  have hg := slot_at (t := 52) 4 ha (by kernel_rfl) (by kernel_rfl) (by kernel_rfl) e4
                  exact StepI.skip rfl (unwanted_at rfl rfl hg rfl) ⟨rfl, hI⟩
                · intro us au w1 k6 hlo hhi ha hd hst hI
                  obtain rfl : k6 = 0 := by omega
                  have e4 := hd 4 _ (by kernel_rfl) rfl
                  have hg := slot_at (t := 52) 4 ha (by kernel_rfl) (by kernel_rfl) (by kernel_rfl) e4
                  exact StepI.skip rfl (unwanted_at rfl rfl hg rfl) ⟨rfl, hI⟩
                · intro us au w1 k7 hlo hhi ha hd hst hI
                  obtain rfl : k7 = 0 := by omega
                  have e4 := hd 4 _ (by kernel_rfl) rfl
                  have hg := slot_at (t := 52) 4 ha (by kernel_rfl) (by kernel_rfl) (by kernel_rfl) e4
                  exact StepI.skip rfl (unwanted_at rfl rfl hg rfl) ⟨rfl, hI⟩
                · intro us au w1 k8 hlo hhi ha hd hst hI
                  obtain rfl : k8 = 0 := by omega
                  have e7 := hd 7 _ (by kernel_rfl) rfl
                  have hg := slot_at (t := 55) 7 ha (by kernel_rfl) (by kernel_rfl) (by kernel_rfl) e7
                  exact StepI.skip rfl (unwanted_undef rfl rfl hg) ⟨rfl, hI⟩
                · intro us au w1 k9 hlo hhi ha hd hst hI
                  obtain rfl : k9 = 0 := by omega
                  have e7 := hd 7 _ (by kernel_rfl) rfl
                  have hg := slot_at (t := 55) 7 ha (by kernel_rfl) (by kernel_rfl) (by kernel_rfl) e7
                  exact StepI.skip rfl (unwanted_undef rfl rfl hg) ⟨rfl, hI⟩
                · intro us au w1 k10 hlo hhi ha hd hst hI
                  obtain rfl : k10 = 0 := by omega
                  have e7 := hd 7 _ (by kernel_rfl) rfl
                  have hg := slot_at (t := 55) 7 ha (by kernel_rfl) (by kernel_rfl) (by kernel_rfl) e7
                  exact StepI.skip rfl (unwanted_undef rfl rfl hg) ⟨rfl, hI⟩
                · intro us au w1 k11 hlo hhi ha hd hst hI
                  obtain rfl : k11 = 0 := by omega
                  have e7 := hd 7 _ (by kernel_rfl) rfl
                  have hg := slot_at (t := 55) 7 ha (by kernel_rfl) (by kernel_rfl) (by kernel_rfl) e7
                  exact StepI.skip rfl (unwanted_undef rfl rfl hg) ⟨rfl, hI⟩
                · intro us au w1 k12 hlo hhi ha hd hst hI
                  obtain rfl : k12 = 0 := by omega
                  have e7 := hd 7 _ (by kernel_rfl) rfl
                  have hg := slot_at (t := 55) 7 ha (by kernel_rfl) (by kernel_rfl) (by kernel_rfl) e7
                  exact StepI.skip rfl (unwanted_undef rfl rfl hg) ⟨rfl, hI⟩
                · intro us au w1 k13 hlo hhi ha hd hst hI
                  obtain rfl : k13 = 0 := by omega
                  have e7 := hd 7 _ (by kernel_rfl) rfl
                  have hg := slot_at (t := 55) 7 ha (by kernel_rfl) (by kernel_rfl) (by kernel_rfl) e7
                  exact StepI.skip rfl (unwanted_undef rfl rfl hg) ⟨rfl, hI⟩
                · intro us au w1 k14 hlo hhi ha hd hst hI
                  obtain rfl : k14 = 0 := by omega
                  have e7 := hd 7 _ (by kernel_rfl) rfl
                  have hg := slot_at (t := 55) 7 ha (by kernel_rfl) (by kernel_rfl) (by kernel_rfl) e7
                  exact StepI.skip rfl (unwanted_undef rfl rfl hg) ⟨rfl, hI⟩
                · intro us au w1 k15 hlo hhi ha hd hst hI
                  obtain rfl : k15 = 0 := by omega
                  have e7 := hd 7 _ (by kernel_rfl) rfl
                  have hg := slot_at (t := 55) 7 ha (by kernel_rfl) (by kernel_rfl) (by kernel_rfl) e7
                  exact StepI.skip rfl (unwanted_undef rfl rfl hg) ⟨rfl, hI⟩
                · intro us au w1 k16 hlo hhi ha hd hst hI
                  obtain rfl : k16 = 0 := by omega
                  have e7 := hd 7 _ (by kernel_rfl) rfl
                  have hg := slot_at (t := 55) 7 ha (by kernel_rfl) (by kernel_rfl) (by kernel_rfl) e7
                  exact StepI.skip rfl (unwanted_undef rfl rfl hg) ⟨rfl, hI⟩
                · intro us au w1 k17 hlo hhi ha hd hst hI
                  obtain rfl : k17 = 0 := by omega
                  have e4 := hd 4 _ (by kernel_rfl) rfl
                  have hg := slot_at (t := 52) 4 ha (by kernel_rfl) (by kernel_rfl) (by kernel_rfl) e4
                  exact StepI.skip rfl (unwanted_at rfl rfl hg rfl) ⟨rfl, hI⟩
                · intro us au w1 k18 hlo hhi ha hd hst hI
                  obtain rfl : k18 = 0 := by omega
                  have e4 := hd 4 _ (by kernel_rfl) rfl
                  have e17 := hd 17 _ (by kernel_rfl) rfl
                  have q52 := slot_at (t := 52) 4 ha (by kernel_rfl) (by kernel_rfl) (by kernel_rfl) e4
                  have p52 := slot_norm q52
                  have q65 := slot_at (t := 65) 17 ha (by kernel_rfl) (by kernel_rfl) (by kernel_rfl) e17
                  have p65 := slot_norm q65
                  clear ha hd hst
                  exact StepI.pure (v := .bool true) rfl rfl (by go_simp) ⟨rfl, hI⟩
                · intro us au w1 k19 hlo hhi ha hd hst hI
                  obtain rfl : k19 = 0 := by omega
                  have e18 := hd 18 _ (by kernel_rfl) rfl
                  have q66 := slot_at (t := 66) 18 ha (by kernel_rfl) (by kernel_rfl) (by kernel_rfl) e18
                  have p66 := slot_norm q66
                  clear ha hd hst
                  exact StepI.pure (v := .bool true) rfl rfl (by go_simp) ⟨rfl, hI⟩
                · intro us au w1 k20 hlo hhi ha hd hst hI
                  obtain rfl : k20 = 0 := by omega
                  have e19 := hd 19 _ (by kernel_rfl) rfl
                  have hg := slot_at (t := 67) 19 ha (by kernel_rfl) (by kernel_rfl) (by kernel_rfl) e19
                  exact StepI.skip rfl (unwanted_at rfl rfl hg rfl) ⟨rfl, hI⟩
                · intro us au w1 k21 hlo hhi ha hd hst hI
                  obtain rfl : k21 = 0 := by omega
                  have e19 := hd 19 _ (by kernel_rfl) rfl
                  have hg := slot_at (t := 67) 19 ha (by kernel_rfl) (by kernel_rfl) (by kernel_rfl) e19
                  exact StepI.skip rfl (unwanted_at rfl rfl hg rfl) ⟨rfl, hI⟩
                · intro us au w1 k22 hlo hhi ha hd hst hI
                  obtain rfl : k22 = 0 := by omega
                  have e19 := hd 19 _ (by kernel_rfl) rfl
                  have hg := slot_at (t := 67) 19 ha (by kernel_rfl) (by kernel_rfl) (by kernel_rfl) e19
                  exact StepI.skip rfl (unwanted_at rfl rfl hg rfl) ⟨rfl, hI⟩
                · intro us au w1 k23 hlo hhi ha hd hst hI
                  obtain rfl : k23 = 0 := by omega
                  have e19 := hd 19 _ (by kernel_rfl) rfl
                  have e22 := hd 22 _ (by kernel_rfl) rfl
                  have q67 := slot_at (t := 67) 19 ha (by kernel_rfl) (by kernel_rfl) (by kernel_rfl) e19
                  have p67 := slot_norm q67
                  have q70 := slot_at (t := 70) 22 ha (by kernel_rfl) (by kernel_rfl) (by kernel_rfl) e22
                  have p70 := slot_norm q70
                  clear ha hd hst
                  exact StepI.pure (v := .bool true) rfl rfl (by go_simp) ⟨rfl, hI⟩
                · intro us au w1 k24 hlo hhi ha hd hst hI
                  obtain rfl : k24 = 0 := by omega
                  have e23 := hd 23 _ (by kernel_rfl) rfl
                  have q71 := slot_at (t := 71) 23 ha (by kernel_rfl) (by kernel_rfl) (by kernel_rfl) e23
                  have p71 := slot_norm q71
                  clear ha hd hst
                  exact StepI.pure (v := .bool true) rfl rfl (by go_simp) ⟨rfl, hI⟩
                · intro us au w1 k25 hlo hhi ha hd hst hI
                  obtain rfl : k25 = 0 := by omega
                  have e24 := hd 24 _ (by kernel_rfl) rfl
                  have hg := slot_at (t := 72) 24 ha (by kernel_rfl) (by kernel_rfl) (by kernel_rfl) e24
                  exact StepI.skip rfl (unwanted_at rfl rfl hg rfl) ⟨rfl, hI⟩
                · intro us au w1 k26 hlo hhi ha hd hst hI
                  obtain rfl : k26 = 0 := by omega
                  have e24 := hd 24 _ (by kernel_rfl) rfl
                  have hg := slot_at (t := 72) 24 ha (by kernel_rfl) (by kernel_rfl) (by kernel_rfl) e24
                  exact StepI.skip rfl (unwanted_at rfl rfl hg rfl) ⟨rfl, hI⟩
                · intro us au w1 k27 hlo hhi ha hd hst hI
                  obtain rfl : k27 = 0 := by omega
                  have e24 := hd 24 _ (by kernel_rfl) rfl
                  have hg := slot_at (t := 72) 24 ha (by kernel_rfl) (by kernel_rfl) (by kernel_rfl) e24
                  exact StepI.skip rfl (unwanted_at rfl rfl hg rfl) ⟨rfl, hI⟩
                · intro us au w1 k28 hlo hhi ha hd hst hI
                  obtain rfl : k28 = 0 := by omega
                  have e24 := hd 24 _ (by kernel_rfl) rfl
                  have e27 := hd 27 _ (by kernel_rfl) rfl
                  have q72 := slot_at (t := 72) 24 ha (by kernel_rfl) (by kernel_rfl) (by kernel_rfl) e24
                  have p72 := slot_norm q72
                  have q75 := slot_at (t := 75) 27 ha (by kernel_rfl) (by kernel_rfl) (by kernel_rfl) e27
                  have p75 := slot_norm q75
                  clear ha hd hst
                  exact StepI.pure (v := .bool true) rfl rfl (by go_simp) ⟨rfl, hI⟩
              case done =>
                intro us w1 hI hd
                have e76 := hd 28 _ (by decide) rfl
                have HBQ := Lib.hid hI
                clear hd hI
                simp only [putAll]
                go_simp
                go_wp2
                go_meet
                exact ⟨⟨_, rfl, by rw [HBD.out, HOX.out]; simp⟩, HBQ.out⟩
            · have HHV := Lib.hid hhv
              have HOX : Hid (okO x = (decide (0 ≤ x.at_) && decide (x.at_ ≤ 4611686018427387904))) := Lib.hid (by unfold okO; rw [hhv]; rfl)
              clear hhv
              by_cases hk0 : k = 0
              · have HS0 : Hid (sameAt S k = false) := Lib.hid (by rw [hk0]; rfl)
                have d3 : decide ((0 : Int) < (k : Int)) = false := decide_eq_false (by omega)
                have d3' : decide (0 < k) = false := decide_eq_false (by omega)
                clear hk0
                by_cases hneg : x.at_ < 0
                · have d4 : decide (x.at_ < 0) = true := decide_eq_true hneg
                  refine wp_region_ph (by kernel_rfl) [] [.span 0 0, .span 0 0, .span 0 0, .span 0 0, .span 0 0, .span 0 0, .span 0 0, .span 0 0, .span 0 0, .span 0 0, .span 0 0, .span 0 0, .span 0 0, .span 0 0, .span 0 0, .span 0 0, .span 0 0, .span 0 0, .span 0 0, .span 0 0, .span 0 0, .span 0 0, .span 0 0, .span 0 0, .span 0 0, .span 0 0, .span 0 0, .span 0 0, .span 0 0] [fun z9 => z9 = .pointer (some ⟨og, 2, none⟩), fun z9 => z9 = .string x.id, fun z9 => z9 = .bool true, fun z9 => z9 = .bool false, fun z9 => z9 = .bool false, fun z9 => z9 = .int .i64 (k : Int), fun z9 => z9 = .bool false, fun z9 => z9 = .bool false, fun z9 => z9 = undef, fun z9 => z9 = undef, fun z9 => z9 = undef, fun z9 => z9 = undef, fun z9 => z9 = undef, fun z9 => z9 = undef, fun z9 => z9 = undef, fun z9 => z9 = undef, fun z9 => z9 = undef, fun z9 => z9 = .bool false, fun z9 => z9 = .bool false, fun z9 => z9 = .bool false, fun z9 => z9 = .pointer (some ⟨og, 3, none⟩), fun z9 => z9 = .int .i64 x.at_, fun z9 => z9 = .bool true, fun z9 => z9 = .bool true, fun z9 => z9 = .bool true, fun z9 => z9 = undef, fun z9 => z9 = undef, fun z9 => z9 = undef, fun z9 => z9 = .bool true] ((fun _ w => Below w6.heap.size w6 w)) (by kernel_rfl) (by kernel_rfl) (by kernel_rfl) (by kernel_rfl) (by kernel_rfl) (by kernel_rfl) rfl rfl ((Below.refl _ _).drew) ?steps ?done
                  case steps =>
                    refine ⟨?_, ?_, ?_, ?_, ?_, ?_, ?_, ?_, ?_, ?_, ?_, ?_, ?_, ?_, ?_, ?_, ?_, ?_, ?_, ?_, ?_, ?_, ?_, ?_, ?_, ?_, ?_, ?_, ?_, trivial⟩
                    · intro us au w1 k0 hlo hhi ha hd hst hI
                      obtain rfl : k0 = 0 := by omega
                      have q13 := slot_far (t := 13) (v := .pointer (some ⟨og, 0, none⟩)) ha (by kernel_rfl) (by kernel_rfl)
                      have p13 := slot_norm q13
                      clear ha hd hst
                      exact StepI.pure (v := .pointer (some ⟨og, 2, none⟩)) rfl rfl (by go_simp) ⟨rfl, hI⟩
                    · intro us au w1 k1 hlo hhi ha hd hst hI
                      obtain rfl : k1 = 0 := by omega
                      have e0 := hd 0 _ (by kernel_rfl) rfl
                      have q48 := slot_at (t := 48) 0 ha (by kernel_rfl) (by kernel_rfl) (by kernel_rfl) e0
                      have p48 := slot_norm q48
                      clear ha hd hst
                      have kk := (hI.cell (p := ⟨og, 2, none⟩) HOB.out).trans K2.out
                      exact StepI.pure (v := .string x.id) rfl rfl (by go_simp) ⟨rfl, hI⟩
                    · intro us au w1 k2 hlo hhi ha hd hst hI
                      obtain rfl : k2 = 0 := by omega
                      have e1 := hd 1 _ (by kernel_rfl) rfl
                      have q49 := slot_at (t := 49) 1 ha (by kernel_rfl) (by kernel_rfl) (by kernel_rfl) e1
                      have p49 := slot_norm q49
                      clear ha hd hst
                      refine StepI.call (f := 24) (args := #[.string x.id]) rfl rfl (by go_simp) ?_
                      refine (hash_any x.id w1 HIDS.out).mono ?_
                      rintro e w5 ⟨rfl, hb5⟩
                      rw [HHV.out]
                      exact ⟨_, rfl, rfl, hI.trans (hb5.mono hI.size)⟩
                    · intro us au w1 k3 hlo hhi ha hd hst hI
                      obtain rfl : k3 = 0 := by omega
                      have e2 := hd 2 _ (by kernel_rfl) rfl
                      have q50 := slot_at (t := 50) 2 ha (by kernel_rfl) (by kernel_rfl) (by kernel_rfl) e2
                      have p50 := slot_norm q50
                      clear ha hd hst
                      exact StepI.pure (v := .bool false) rfl rfl (by go_simp) ⟨rfl, hI⟩
                    · intro us au w1 k4 hlo hhi ha hd hst hI
                      obtain rfl : k4 = 0 := by omega
                      have e3 := hd 3 _ (by kernel_rfl) rfl
                      have q51 := slot_at (t := 51) 3 ha (by kernel_rfl) (by kernel_rfl) (by kernel_rfl) e3
                      have p51 := slot_norm q51
                      clear ha hd hst
                      exact StepI.pure (v := .bool false) rfl rfl (by go_simp) ⟨rfl, hI⟩
                    · intro us au w1 k5 hlo hhi ha hd hst hI
                      obtain rfl : k5 = 0 := by omega
                      have e4 := hd 4 _ (by kernel_rfl) rfl
                      have q12 := slot_far (t := 12) (v := .int .i64 (k : Int)) ha (by kernel_rfl) (by kernel_rfl)
                      have p12 := slot_norm q12
                      have hg := slot_at (t := 52) 4 ha (by kernel_rfl) (by kernel_rfl) (by kernel_rfl) e4
                      clear ha hd hst
                      exact StepI.pure (v := .int .i64 (k : Int)) rfl (wanted_at rfl rfl hg) (by go_simp) ⟨rfl, hI⟩
                    · intro us au w1 k6 hlo hhi ha hd hst hI
                      obtain rfl : k6 = 0 := by omega
                      have e5 := hd 5 _ (by kernel_rfl) rfl
                      have e4 := hd 4 _ (by kernel_rfl) rfl
                      have q53 := slot_at (t := 53) 5 ha (by kernel_rfl) (by kernel_rfl) (by kernel_rfl) e5
                      have p53 := slot_norm q53
                      have hg := slot_at (t := 52) 4 ha (by kernel_rfl) (by kernel_rfl) (by kernel_rfl) e4
                      clear ha hd hst
                      exact StepI.pure (v := .bool false) rfl (wanted_at rfl rfl hg) (by go_simp) ⟨rfl, hI⟩
                    · intro us au w1 k7 hlo hhi ha hd hst hI
                      obtain rfl : k7 = 0 := by omega
                      have e6 := hd 6 _ (by kernel_rfl) rfl
                      have e4 := hd 4 _ (by kernel_rfl) rfl
                      have q54 := slot_at (t := 54) 6 ha (by kernel_rfl) (by kernel_rfl) (by kernel_rfl) e6
                      have p54 := slot_norm q54
                      have hg := slot_at (t := 52) 4 ha (by kernel_rfl) (by kernel_rfl) (by kernel_rfl) e4
                      clear ha hd hst
                      exact StepI.pure (v := .bool false) rfl (wanted_at rfl rfl hg) (by go_simp) ⟨rfl, hI⟩
                    · intro us au w1 k8 hlo hhi ha hd hst hI
                      obtain rfl : k8 = 0 := by omega
                      have e7 := hd 7 _ (by kernel_rfl) rfl
                      have hg := slot_at (t := 55) 7 ha (by kernel_rfl) (by kernel_rfl) (by kernel_rfl) e7
                      exact StepI.skip rfl (unwanted_at rfl rfl hg rfl) ⟨rfl, hI⟩
                    · intro us au w1 k9 hlo hhi ha hd hst hI
                      obtain rfl : k9 = 0 := by omega
                      have e7 := hd 7 _ (by kernel_rfl) rfl
                      have hg := slot_at (t := 55) 7 ha (by kernel_rfl) (by kernel_rfl) (by kernel_rfl) e7
                      exact StepI.skip rfl (unwanted_at rfl rfl hg rfl) ⟨rfl, hI⟩
                    · intro us au w1 k10 hlo hhi ha hd hst hI
                      obtain rfl : k10 = 0 := by omega
                      have e7 := hd 7 _ (by kernel_rfl) rfl
                      have hg := slot_at (t := 55) 7 ha (by kernel_rfl) (by kernel_rfl) (by kernel_rfl) e7
                      exact StepI.skip rfl (unwanted_at rfl rfl hg rfl) ⟨rfl, hI⟩
                    · intro us au w1 k11 hlo hhi ha hd hst hI
                      obtain rfl : k11 = 0 := by omega
                      have e7 := hd 7 _ (by kernel_rfl) rfl
                      have hg := slot_at (t := 55) 7 ha (by kernel_rfl) (by kernel_rfl) (by kernel_rfl) e7
                      exact StepI.skip rfl (unwanted_at rfl rfl hg rfl) ⟨rfl, hI⟩
                    · intro us au w1 k12 hlo hhi ha hd hst hI
                      obtain rfl : k12 = 0 := by omega
                      have e7 := hd 7 _ (by kernel_rfl) rfl
                      have hg := slot_at (t := 55) 7 ha (by kernel_rfl) (by kernel_rfl) (by kernel_rfl) e7
                      exact StepI.skip rfl (unwanted_at rfl rfl hg rfl) ⟨rfl, hI⟩
                    · intro us au w1 k13 hlo hhi ha hd hst hI
                      obtain rfl : k13 = 0 := by omega
                      have e7 := hd 7 _ (by kernel_rfl) rfl
                      have hg := slot_at (t := 55) 7 ha (by kernel_rfl) (by kernel_rfl) (by kernel_rfl) e7
                      exact StepI.skip rfl (unwanted_at rfl rfl hg rfl) ⟨rfl, hI⟩
                    · intro us au w1 k14 hlo hhi ha hd hst hI
                      obtain rfl : k14 = 0 := by omega
                      have e7 := hd 7 _ (by kernel_rfl) rfl
                      have hg := slot_at (t := 55) 7 ha (by kernel_rfl) (by kernel_rfl) (by kernel_rfl) e7
                      exact StepI.skip rfl (unwanted_at rfl rfl hg rfl) ⟨rfl, hI⟩
                    · intro us au w1 k15 hlo hhi ha hd hst hI
                      obtain rfl : k15 = 0 := by omega
                      have e7 := hd 7 _ (by kernel_rfl) rfl
                      have hg := slot_at (t := 55) 7 ha (by kernel_rfl) (by kernel_rfl) (by kernel_rfl) e7
                      exact StepI.skip rfl (unwanted_at rfl rfl hg rfl) ⟨rfl, hI⟩
                    · intro us au w1 k16 hlo hhi ha hd hst hI
                      obtain rfl : k16 = 0 := by omega
                      have e7 := hd 7 _ (by kernel_rfl) rfl
                      have hg := slot_at (t := 55) 7 ha (by kernel_rfl) (by kernel_rfl) (by kernel_rfl) e7
                      exact StepI.skip rfl (unwanted_at rfl rfl hg rfl) ⟨rfl, hI⟩
                    · intro us au w1 k17 hlo hhi ha hd hst hI
                      obtain rfl : k17 = 0 := by omega
                      have e7 := hd 7 _ (by kernel_rfl) rfl
                      have e16 := hd 16 _ (by kernel_rfl) rfl
                      have e4 := hd 4 _ (by kernel_rfl) rfl
                      have q55 := slot_at (t := 55) 7 ha (by kernel_rfl) (by kernel_rfl) (by kernel_rfl) e7
                      have p55 := slot_norm q55
                      have q64 := slot_at (t := 64) 16 ha (by kernel_rfl) (by kernel_rfl) (by kernel_rfl) e16
                      have p64 := slot_norm q64
                      have hg := slot_at (t := 52) 4 ha (by kernel_rfl) (by kernel_rfl) (by kernel_rfl) e4
                      clear ha hd hst
                      exact StepI.pure (v := .bool false) rfl (wanted_at rfl rfl hg) (by go_simp) ⟨rfl, hI⟩
                    · intro us au w1 k18 hlo hhi ha hd hst hI
                      obtain rfl : k18 = 0 := by omega
                      have e4 := hd 4 _ (by kernel_rfl) rfl
                      have e17 := hd 17 _ (by kernel_rfl) rfl
                      have q52 := slot_at (t := 52) 4 ha (by kernel_rfl) (by kernel_rfl) (by kernel_rfl) e4
                      have p52 := slot_norm q52
                      have q65 := slot_at (t := 65) 17 ha (by kernel_rfl) (by kernel_rfl) (by kernel_rfl) e17
                      have p65 := slot_norm q65
                      clear ha hd hst
                      exact StepI.pure (v := .bool false) rfl rfl (by go_simp) ⟨rfl, hI⟩
                    · intro us au w1 k19 hlo hhi ha hd hst hI
                      obtain rfl : k19 = 0 := by omega
                      have e18 := hd 18 _ (by kernel_rfl) rfl
                      have q66 := slot_at (t := 66) 18 ha (by kernel_rfl) (by kernel_rfl) (by kernel_rfl) e18
                      have p66 := slot_norm q66
                      clear ha hd hst
                      exact StepI.pure (v := .bool false) rfl rfl (by go_simp) ⟨rfl, hI⟩
                    · intro us au w1 k20 hlo hhi ha hd hst hI
                      obtain rfl : k20 = 0 := by omega
                      have e19 := hd 19 _ (by kernel_rfl) rfl
                      have q13 := slot_far (t := 13) (v := .pointer (some ⟨og, 0, none⟩)) ha (by kernel_rfl) (by kernel_rfl)
                      have p13 := slot_norm q13
                      have hg := slot_at (t := 67) 19 ha (by kernel_rfl) (by kernel_rfl) (by kernel_rfl) e19
                      clear ha hd hst
                      exact StepI.pure (v := .pointer (some ⟨og, 3, none⟩)) rfl (wanted_at rfl rfl hg) (by go_simp) ⟨rfl, hI⟩
                    · intro us au w1 k21 hlo hhi ha hd hst hI
                      obtain rfl : k21 = 0 := by omega
                      have e20 := hd 20 _ (by kernel_rfl) rfl
                      have e19 := hd 19 _ (by kernel_rfl) rfl
                      have q68 := slot_at (t := 68) 20 ha (by kernel_rfl) (by kernel_rfl) (by kernel_rfl) e20
                      have p68 := slot_norm q68
                      have hg := slot_at (t := 67) 19 ha (by kernel_rfl) (by kernel_rfl) (by kernel_rfl) e19
                      clear ha hd hst
                      have kk := (hI.cell (p := ⟨og, 3, none⟩) HOB.out).trans K3.out
                      exact StepI.pure (v := .int .i64 x.at_) rfl (wanted_at rfl rfl hg) (by go_simp) ⟨rfl, hI⟩
                    · intro us au w1 k22 hlo hhi ha hd hst hI
                      obtain rfl : k22 = 0 := by omega
                      have e21 := hd 21 _ (by kernel_rfl) rfl
                      have e19 := hd 19 _ (by kernel_rfl) rfl
                      have q69 := slot_at (t := 69) 21 ha (by kernel_rfl) (by kernel_rfl) (by kernel_rfl) e21
                      have p69 := slot_norm q69
                      have hg := slot_at (t := 67) 19 ha (by kernel_rfl) (by kernel_rfl) (by kernel_rfl) e19
                      clear ha hd hst
                      exact StepI.pure (v := .bool true) rfl (wanted_at rfl rfl hg) (by go_simp) ⟨rfl, hI⟩
                    · intro us au w1 k23 hlo hhi ha hd hst hI
                      obtain rfl : k23 = 0 := by omega
                      have e19 := hd 19 _ (by kernel_rfl) rfl
                      have e22 := hd 22 _ (by kernel_rfl) rfl
                      have q67 := slot_at (t := 67) 19 ha (by kernel_rfl) (by kernel_rfl) (by kernel_rfl) e19
                      have p67 := slot_norm q67
                      have q70 := slot_at (t := 70) 22 ha (by kernel_rfl) (by kernel_rfl) (by kernel_rfl) e22
                      have p70 := slot_norm q70
                      clear ha hd hst
                      exact StepI.pure (v := .bool true) rfl rfl (by go_simp) ⟨rfl, hI⟩
                    · intro us au w1 k24 hlo hhi ha hd hst hI
                      obtain rfl : k24 = 0 := by omega
                      have e23 := hd 23 _ (by kernel_rfl) rfl
                      have q71 := slot_at (t := 71) 23 ha (by kernel_rfl) (by kernel_rfl) (by kernel_rfl) e23
                      have p71 := slot_norm q71
                      clear ha hd hst
                      exact StepI.pure (v := .bool true) rfl rfl (by go_simp) ⟨rfl, hI⟩
                    · intro us au w1 k25 hlo hhi ha hd hst hI
                      obtain rfl : k25 = 0 := by omega
                      have e24 := hd 24 _ (by kernel_rfl) rfl
                      have hg := slot_at (t := 72) 24 ha (by kernel_rfl) (by kernel_rfl) (by kernel_rfl) e24
                      exact StepI.skip rfl (unwanted_at rfl rfl hg rfl) ⟨rfl, hI⟩
                    · intro us au w1 k26 hlo hhi ha hd hst hI
                      obtain rfl : k26 = 0 := by omega
                      have e24 := hd 24 _ (by kernel_rfl) rfl
                      have hg := slot_at (t := 72) 24 ha (by kernel_rfl) (by kernel_rfl) (by kernel_rfl) e24
                      exact StepI.skip rfl (unwanted_at rfl rfl hg rfl) ⟨rfl, hI⟩
                    · intro us au w1 k27 hlo hhi ha hd hst hI
                      obtain rfl : k27 = 0 := by omega
                      have e24 := hd 24 _ (by kernel_rfl) rfl
                      have hg := slot_at (t := 72) 24 ha (by kernel_rfl) (by kernel_rfl) (by kernel_rfl) e24
                      exact StepI.skip rfl (unwanted_at rfl rfl hg rfl) ⟨rfl, hI⟩
                    · intro us au w1 k28 hlo hhi ha hd hst hI
                      obtain rfl : k28 = 0 := by omega
                      have e24 := hd 24 _ (by kernel_rfl) rfl
                      have e27 := hd 27 _ (by kernel_rfl) rfl
                      have q72 := slot_at (t := 72) 24 ha (by kernel_rfl) (by kernel_rfl) (by kernel_rfl) e24
                      have p72 := slot_norm q72
                      have q75 := slot_at (t := 75) 27 ha (by kernel_rfl) (by kernel_rfl) (by kernel_rfl) e27
                      have p75 := slot_norm q75
                      clear ha hd hst
                      exact StepI.pure (v := .bool true) rfl rfl (by go_simp) ⟨rfl, hI⟩
                  case done =>
                    intro us w1 hI hd
                    have e76 := hd 28 _ (by decide) rfl
                    have HBQ := Lib.hid hI
                    clear hd hI
                    simp only [putAll]
                    go_simp
                    go_wp2
                    go_meet
                    exact ⟨⟨_, rfl, by rw [HBD.out, HOX.out, decide_eq_false (by omega : ¬ 0 ≤ x.at_)]; simp⟩, HBQ.out⟩
                · have d4 : decide (x.at_ < 0) = false := decide_eq_false hneg
                  by_cases hbig : 4611686018427387904 < x.at_
                  · have d5 : decide (4611686018427387904 < x.at_) = true := decide_eq_true hbig
                    refine wp_region_ph (by kernel_rfl) [] [.span 0 0, .span 0 0, .span 0 0, .span 0 0, .span 0 0, .span 0 0, .span 0 0, .span 0 0, .span 0 0, .span 0 0, .span 0 0, .span 0 0, .span 0 0, .span 0 0, .span 0 0, .span 0 0, .span 0 0, .span 0 0, .span 0 0, .span 0 0, .span 0 0, .span 0 0, .span 0 0, .span 0 0, .span 0 0, .span 0 0, .span 0 0, .span 0 0, .span 0 0] [fun z9 => z9 = .pointer (some ⟨og, 2, none⟩), fun z9 => z9 = .string x.id, fun z9 => z9 = .bool true, fun z9 => z9 = .bool false, fun z9 => z9 = .bool false, fun z9 => z9 = .int .i64 (k : Int), fun z9 => z9 = .bool false, fun z9 => z9 = .bool false, fun z9 => z9 = undef, fun z9 => z9 = undef, fun z9 => z9 = undef, fun z9 => z9 = undef, fun z9 => z9 = undef, fun z9 => z9 = undef, fun z9 => z9 = undef, fun z9 => z9 = undef, fun z9 => z9 = undef, fun z9 => z9 = .bool false, fun z9 => z9 = .bool false, fun z9 => z9 = .bool false, fun z9 => z9 = .pointer (some ⟨og, 3, none⟩), fun z9 => z9 = .int .i64 x.at_, fun z9 => z9 = .bool false, fun z9 => z9 = .bool false, fun z9 => z9 = .bool false, fun z9 => z9 = .pointer (some ⟨og, 3, none⟩), fun z9 => z9 = .int .i64 x.at_, fun z9 => z9 = .bool true, fun z9 => z9 = .bool true] ((fun _ w => Below w6.heap.size w6 w)) (by kernel_rfl) (by kernel_rfl) (by kernel_rfl) (by kernel_rfl) (by kernel_rfl) (by kernel_rfl) rfl rfl ((Below.refl _ _).drew) ?steps ?done
                    case steps =>
                      refine ⟨?_, ?_, ?_, ?_, ?_, ?_, ?_, ?_, ?_, ?_, ?_, ?_, ?_, ?_, ?_, ?_, ?_, ?_, ?_, ?_, ?_, ?_, ?_, ?_, ?_, ?_, ?_, ?_, ?_, trivial⟩
                      · intro us au w1 k0 hlo hhi ha hd hst hI
                        obtain rfl : k0 = 0 := by omega
                        have q13 := slot_far (t := 13) (v := .pointer (some ⟨og, 0, none⟩)) ha (by kernel_rfl) (by kernel_rfl)
                        have p13 := slot_norm q13
                        clear ha hd hst
                        exact StepI.pure (v := .pointer (some ⟨og, 2, none⟩)) rfl rfl (by go_simp) ⟨rfl, hI⟩
                      · intro us au w1 k1 hlo hhi ha hd hst hI
                        obtain rfl : k1 = 0 := by omega
                        have e0 := hd 0 _ (by kernel_rfl) rfl
                        have q48 := slot_at (t := 48) 0 ha (by kernel_rfl) (by kernel_rfl) (by kernel_rfl) e0
                        have p48 := slot_norm q48
                        clear ha hd hst
                        have kk := (hI.cell (p := ⟨og, 2, none⟩) HOB.out).trans K2.out
                        exact StepI.pure (v := .string x.id) rfl rfl (by go_simp) ⟨rfl, hI⟩
                      · intro us au w1 k2 hlo hhi ha hd hst hI
                        obtain rfl : k2 = 0 := by omega
                        have e1 := hd 1 _ (by kernel_rfl) rfl
                        have q49 := slot_at (t := 49) 1 ha (by kernel_rfl) (by kernel_rfl) (by kernel_rfl) e1
                        have p49 := slot_norm q49
                        clear ha hd hst
                        refine StepI.call (f := 24) (args := #[.string x.id]) rfl rfl (by go_simp) ?_
                        refine (hash_any x.id w1 HIDS.out).mono ?_
                        rintro e w5 ⟨rfl, hb5⟩
                        rw [HHV.out]
                        exact ⟨_, rfl, rfl, hI.trans (hb5.mono hI.size)⟩
                      · intro us au w1 k3 hlo hhi ha hd hst hI
                        obtain rfl : k3 = 0 := by omega
                        have e2 := hd 2 _ (by kernel_rfl) rfl
                        have q50 := slot_at (t := 50) 2 ha (by kernel_rfl) (by kernel_rfl) (by kernel_rfl) e2
                        have p50 := slot_norm q50
                        clear ha hd hst
                        exact StepI.pure (v := .bool false) rfl rfl (by go_simp) ⟨rfl, hI⟩
                      · intro us au w1 k4 hlo hhi ha hd hst hI
                        obtain rfl : k4 = 0 := by omega
                        have e3 := hd 3 _ (by kernel_rfl) rfl
                        have q51 := slot_at (t := 51) 3 ha (by kernel_rfl) (by kernel_rfl) (by kernel_rfl) e3
                        have p51 := slot_norm q51
                        clear ha hd hst
                        exact StepI.pure (v := .bool false) rfl rfl (by go_simp) ⟨rfl, hI⟩
                      · intro us au w1 k5 hlo hhi ha hd hst hI
                        obtain rfl : k5 = 0 := by omega
                        have e4 := hd 4 _ (by kernel_rfl) rfl
                        have q12 := slot_far (t := 12) (v := .int .i64 (k : Int)) ha (by kernel_rfl) (by kernel_rfl)
                        have p12 := slot_norm q12
                        have hg := slot_at (t := 52) 4 ha (by kernel_rfl) (by kernel_rfl) (by kernel_rfl) e4
                        clear ha hd hst
                        exact StepI.pure (v := .int .i64 (k : Int)) rfl (wanted_at rfl rfl hg) (by go_simp) ⟨rfl, hI⟩
                      · intro us au w1 k6 hlo hhi ha hd hst hI
                        obtain rfl : k6 = 0 := by omega
                        have e5 := hd 5 _ (by kernel_rfl) rfl
                        have e4 := hd 4 _ (by kernel_rfl) rfl
                        have q53 := slot_at (t := 53) 5 ha (by kernel_rfl) (by kernel_rfl) (by kernel_rfl) e5
                        have p53 := slot_norm q53
                        have hg := slot_at (t := 52) 4 ha (by kernel_rfl) (by kernel_rfl) (by kernel_rfl) e4
                        clear ha hd hst
                        exact StepI.pure (v := .bool false) rfl (wanted_at rfl rfl hg) (by go_simp) ⟨rfl, hI⟩
                      · intro us au w1 k7 hlo hhi ha hd hst hI
                        obtain rfl : k7 = 0 := by omega
                        have e6 := hd 6 _ (by kernel_rfl) rfl
                        have e4 := hd 4 _ (by kernel_rfl) rfl
                        have q54 := slot_at (t := 54) 6 ha (by kernel_rfl) (by kernel_rfl) (by kernel_rfl) e6
                        have p54 := slot_norm q54
                        have hg := slot_at (t := 52) 4 ha (by kernel_rfl) (by kernel_rfl) (by kernel_rfl) e4
                        clear ha hd hst
                        exact StepI.pure (v := .bool false) rfl (wanted_at rfl rfl hg) (by go_simp) ⟨rfl, hI⟩
                      · intro us au w1 k8 hlo hhi ha hd hst hI
                        obtain rfl : k8 = 0 := by omega
                        have e7 := hd 7 _ (by kernel_rfl) rfl
                        have hg := slot_at (t := 55) 7 ha (by kernel_rfl) (by kernel_rfl) (by kernel_rfl) e7
                        exact StepI.skip rfl (unwanted_at rfl rfl hg rfl) ⟨rfl, hI⟩
                      · intro us au w1 k9 hlo hhi ha hd hst hI
                        obtain rfl : k9 = 0 := by omega
                        have e7 := hd 7 _ (by kernel_rfl) rfl
                        have hg := slot_at (t := 55) 7 ha (by kernel_rfl) (by kernel_rfl) (by kernel_rfl) e7
                        exact StepI.skip rfl (unwanted_at rfl rfl hg rfl) ⟨rfl, hI⟩
                      · intro us au w1 k10 hlo hhi ha hd hst hI
                        obtain rfl : k10 = 0 := by omega
                        have e7 := hd 7 _ (by kernel_rfl) rfl
                        have hg := slot_at (t := 55) 7 ha (by kernel_rfl) (by kernel_rfl) (by kernel_rfl) e7
                        exact StepI.skip rfl (unwanted_at rfl rfl hg rfl) ⟨rfl, hI⟩
                      · intro us au w1 k11 hlo hhi ha hd hst hI
                        obtain rfl : k11 = 0 := by omega
                        have e7 := hd 7 _ (by kernel_rfl) rfl
                        have hg := slot_at (t := 55) 7 ha (by kernel_rfl) (by kernel_rfl) (by kernel_rfl) e7
                        exact StepI.skip rfl (unwanted_at rfl rfl hg rfl) ⟨rfl, hI⟩
                      · intro us au w1 k12 hlo hhi ha hd hst hI
                        obtain rfl : k12 = 0 := by omega
                        have e7 := hd 7 _ (by kernel_rfl) rfl
                        have hg := slot_at (t := 55) 7 ha (by kernel_rfl) (by kernel_rfl) (by kernel_rfl) e7
                        exact StepI.skip rfl (unwanted_at rfl rfl hg rfl) ⟨rfl, hI⟩
                      · intro us au w1 k13 hlo hhi ha hd hst hI
                        obtain rfl : k13 = 0 := by omega
                        have e7 := hd 7 _ (by kernel_rfl) rfl
                        have hg := slot_at (t := 55) 7 ha (by kernel_rfl) (by kernel_rfl) (by kernel_rfl) e7
                        exact StepI.skip rfl (unwanted_at rfl rfl hg rfl) ⟨rfl, hI⟩
                      · intro us au w1 k14 hlo hhi ha hd hst hI
                        obtain rfl : k14 = 0 := by omega
                        have e7 := hd 7 _ (by kernel_rfl) rfl
                        have hg := slot_at (t := 55) 7 ha (by kernel_rfl) (by kernel_rfl) (by kernel_rfl) e7
                        exact StepI.skip rfl (unwanted_at rfl rfl hg rfl) ⟨rfl, hI⟩
                      · intro us au w1 k15 hlo hhi ha hd hst hI
                        obtain rfl : k15 = 0 := by omega
                        have e7 := hd 7 _ (by kernel_rfl) rfl
                        have hg := slot_at (t := 55) 7 ha (by kernel_rfl) (by kernel_rfl) (by kernel_rfl) e7
                        exact StepI.skip rfl (unwanted_at rfl rfl hg rfl) ⟨rfl, hI⟩
                      · intro us au w1 k16 hlo hhi ha hd hst hI
                        obtain rfl : k16 = 0 := by omega
                        have e7 := hd 7 _ (by kernel_rfl) rfl
                        have hg := slot_at (t := 55) 7 ha (by kernel_rfl) (by kernel_rfl) (by kernel_rfl) e7
                        exact StepI.skip rfl (unwanted_at rfl rfl hg rfl) ⟨rfl, hI⟩
                      · intro us au w1 k17 hlo hhi ha hd hst hI
                        obtain rfl : k17 = 0 := by omega
                        have e7 := hd 7 _ (by kernel_rfl) rfl
                        have e16 := hd 16 _ (by kernel_rfl) rfl
                        have e4 := hd 4 _ (by kernel_rfl) rfl
                        have q55 := slot_at (t := 55) 7 ha (by kernel_rfl) (by kernel_rfl) (by kernel_rfl) e7
                        have p55 := slot_norm q55
                        have q64 := slot_at (t := 64) 16 ha (by kernel_rfl) (by kernel_rfl) (by kernel_rfl) e16
                        have p64 := slot_norm q64
                        have hg := slot_at (t := 52) 4 ha (by kernel_rfl) (by kernel_rfl) (by kernel_rfl) e4
                        clear ha hd hst
                        exact StepI.pure (v := .bool false) rfl (wanted_at rfl rfl hg) (by go_simp) ⟨rfl, hI⟩
                      · intro us au w1 k18 hlo hhi ha hd hst hI
                        obtain rfl : k18 = 0 := by omega
                        have e4 := hd 4 _ (by kernel_rfl) rfl
                        have e17 := hd 17 _ (by kernel_rfl) rfl
                        have q52 := slot_at (t := 52) 4 ha (by kernel_rfl) (by kernel_rfl) (by kernel_rfl) e4
                        have p52 := slot_norm q52
                        have q65 := slot_at (t := 65) 17 ha (by kernel_rfl) (by kernel_rfl) (by kernel_rfl) e17
                        have p65 := slot_norm q65
                        clear ha hd hst
                        exact StepI.pure (v := .bool false) rfl rfl (by go_simp) ⟨rfl, hI⟩
                      · intro us au w1 k19 hlo hhi ha hd hst hI
                        obtain rfl : k19 = 0 := by omega
                        have e18 := hd 18 _ (by kernel_rfl) rfl
                        have q66 := slot_at (t := 66) 18 ha (by kernel_rfl) (by kernel_rfl) (by kernel_rfl) e18
                        have p66 := slot_norm q66
                        clear ha hd hst
                        exact StepI.pure (v := .bool false) rfl rfl (by go_simp) ⟨rfl, hI⟩
                      · intro us au w1 k20 hlo hhi ha hd hst hI
                        obtain rfl : k20 = 0 := by omega
                        have e19 := hd 19 _ (by kernel_rfl) rfl
                        have q13 := slot_far (t := 13) (v := .pointer (some ⟨og, 0, none⟩)) ha (by kernel_rfl) (by kernel_rfl)
                        have p13 := slot_norm q13
                        have hg := slot_at (t := 67) 19 ha (by kernel_rfl) (by kernel_rfl) (by kernel_rfl) e19
                        clear ha hd hst
                        exact StepI.pure (v := .pointer (some ⟨og, 3, none⟩)) rfl (wanted_at rfl rfl hg) (by go_simp) ⟨rfl, hI⟩
                      · intro us au w1 k21 hlo hhi ha hd hst hI
                        obtain rfl : k21 = 0 := by omega
                        have e20 := hd 20 _ (by kernel_rfl) rfl
                        have e19 := hd 19 _ (by kernel_rfl) rfl
                        have q68 := slot_at (t := 68) 20 ha (by kernel_rfl) (by kernel_rfl) (by kernel_rfl) e20
                        have p68 := slot_norm q68
                        have hg := slot_at (t := 67) 19 ha (by kernel_rfl) (by kernel_rfl) (by kernel_rfl) e19
                        clear ha hd hst
                        have kk := (hI.cell (p := ⟨og, 3, none⟩) HOB.out).trans K3.out
                        exact StepI.pure (v := .int .i64 x.at_) rfl (wanted_at rfl rfl hg) (by go_simp) ⟨rfl, hI⟩
                      · intro us au w1 k22 hlo hhi ha hd hst hI
                        obtain rfl : k22 = 0 := by omega
                        have e21 := hd 21 _ (by kernel_rfl) rfl
                        have e19 := hd 19 _ (by kernel_rfl) rfl
                        have q69 := slot_at (t := 69) 21 ha (by kernel_rfl) (by kernel_rfl) (by kernel_rfl) e21
                        have p69 := slot_norm q69
                        have hg := slot_at (t := 67) 19 ha (by kernel_rfl) (by kernel_rfl) (by kernel_rfl) e19
                        clear ha hd hst
                        exact StepI.pure (v := .bool false) rfl (wanted_at rfl rfl hg) (by go_simp) ⟨rfl, hI⟩
                      · intro us au w1 k23 hlo hhi ha hd hst hI
                        obtain rfl : k23 = 0 := by omega
                        have e19 := hd 19 _ (by kernel_rfl) rfl
                        have e22 := hd 22 _ (by kernel_rfl) rfl
                        have q67 := slot_at (t := 67) 19 ha (by kernel_rfl) (by kernel_rfl) (by kernel_rfl) e19
                        have p67 := slot_norm q67
                        have q70 := slot_at (t := 70) 22 ha (by kernel_rfl) (by kernel_rfl) (by kernel_rfl) e22
                        have p70 := slot_norm q70
                        clear ha hd hst
                        exact StepI.pure (v := .bool false) rfl rfl (by go_simp) ⟨rfl, hI⟩
                      · intro us au w1 k24 hlo hhi ha hd hst hI
                        obtain rfl : k24 = 0 := by omega
                        have e23 := hd 23 _ (by kernel_rfl) rfl
                        have q71 := slot_at (t := 71) 23 ha (by kernel_rfl) (by kernel_rfl) (by kernel_rfl) e23
                        have p71 := slot_norm q71
                        clear ha hd hst
                        exact StepI.pure (v := .bool false) rfl rfl (by go_simp) ⟨rfl, hI⟩
                      · intro us au w1 k25 hlo hhi ha hd hst hI
                        obtain rfl : k25 = 0 := by omega
                        have e24 := hd 24 _ (by kernel_rfl) rfl
                        have q13 := slot_far (t := 13) (v := .pointer (some ⟨og, 0, none⟩)) ha (by kernel_rfl) (by kernel_rfl)
                        have p13 := slot_norm q13
                        have hg := slot_at (t := 72) 24 ha (by kernel_rfl) (by kernel_rfl) (by kernel_rfl) e24
                        clear ha hd hst
                        exact StepI.pure (v := .pointer (some ⟨og, 3, none⟩)) rfl (wanted_at rfl rfl hg) (by go_simp) ⟨rfl, hI⟩
                      · intro us au w1 k26 hlo hhi ha hd hst hI
                        obtain rfl : k26 = 0 := by omega
                        have e25 := hd 25 _ (by kernel_rfl) rfl
                        have e24 := hd 24 _ (by kernel_rfl) rfl
                        have q73 := slot_at (t := 73) 25 ha (by kernel_rfl) (by kernel_rfl) (by kernel_rfl) e25
                        have p73 := slot_norm q73
                        have hg := slot_at (t := 72) 24 ha (by kernel_rfl) (by kernel_rfl) (by kernel_rfl) e24
                        clear ha hd hst
                        have kk := (hI.cell (p := ⟨og, 3, none⟩) HOB.out).trans K3.out
                        exact StepI.pure (v := .int .i64 x.at_) rfl (wanted_at rfl rfl hg) (by go_simp) ⟨rfl, hI⟩
                      · intro us au w1 k27 hlo hhi ha hd hst hI
                        obtain rfl : k27 = 0 := by omega
                        have e26 := hd 26 _ (by kernel_rfl) rfl
                        have e24 := hd 24 _ (by kernel_rfl) rfl
                        have q74 := slot_at (t := 74) 26 ha (by kernel_rfl) (by kernel_rfl) (by kernel_rfl) e26
                        have p74 := slot_norm q74
                        have hg := slot_at (t := 72) 24 ha (by kernel_rfl) (by kernel_rfl) (by kernel_rfl) e24
                        clear ha hd hst
                        exact StepI.pure (v := .bool true) rfl (wanted_at rfl rfl hg) (by go_simp) ⟨rfl, hI⟩
                      · intro us au w1 k28 hlo hhi ha hd hst hI
                        obtain rfl : k28 = 0 := by omega
                        have e24 := hd 24 _ (by kernel_rfl) rfl
                        have e27 := hd 27 _ (by kernel_rfl) rfl
                        have q72 := slot_at (t := 72) 24 ha (by kernel_rfl) (by kernel_rfl) (by kernel_rfl) e24
                        have p72 := slot_norm q72
                        have q75 := slot_at (t := 75) 27 ha (by kernel_rfl) (by kernel_rfl) (by kernel_rfl) e27
                        have p75 := slot_norm q75
                        clear ha hd hst
                        exact StepI.pure (v := .bool true) rfl rfl (by go_simp) ⟨rfl, hI⟩
                    case done =>
                      intro us w1 hI hd
                      have e76 := hd 28 _ (by decide) rfl
                      have HBQ := Lib.hid hI
                      clear hd hI
                      simp only [putAll]
                      go_simp
                      go_wp2
                      go_meet
                      exact ⟨⟨_, rfl, by rw [HBD.out, HOX.out, decide_eq_false (by omega : ¬ x.at_ ≤ 4611686018427387904)]; simp⟩, HBQ.out⟩
                  · have d5 : decide (4611686018427387904 < x.at_) = false := decide_eq_false hbig
                    refine wp_region_ph (by kernel_rfl) [] [.span 0 0, .span 0 0, .span 0 0, .span 0 0, .span 0 0, .span 0 0, .span 0 0, .span 0 0, .span 0 0, .span 0 0, .span 0 0, .span 0 0, .span 0 0, .span 0 0, .span 0 0, .span 0 0, .span 0 0, .span 0 0, .span 0 0, .span 0 0, .span 0 0, .span 0 0, .span 0 0, .span 0 0, .span 0 0, .span 0 0, .span 0 0, .span 0 0, .span 0 0] [fun z9 => z9 = .pointer (some ⟨og, 2, none⟩), fun z9 => z9 = .string x.id, fun z9 => z9 = .bool true, fun z9 => z9 = .bool false, fun z9 => z9 = .bool false, fun z9 => z9 = .int .i64 (k : Int), fun z9 => z9 = .bool false, fun z9 => z9 = .bool false, fun z9 => z9 = undef, fun z9 => z9 = undef, fun z9 => z9 = undef, fun z9 => z9 = undef, fun z9 => z9 = undef, fun z9 => z9 = undef, fun z9 => z9 = undef, fun z9 => z9 = undef, fun z9 => z9 = undef, fun z9 => z9 = .bool false, fun z9 => z9 = .bool false, fun z9 => z9 = .bool false, fun z9 => z9 = .pointer (some ⟨og, 3, none⟩), fun z9 => z9 = .int .i64 x.at_, fun z9 => z9 = .bool false, fun z9 => z9 = .bool false, fun z9 => z9 = .bool false, fun z9 => z9 = .pointer (some ⟨og, 3, none⟩), fun z9 => z9 = .int .i64 x.at_, fun z9 => z9 = .bool false, fun z9 => z9 = .bool false] ((fun _ w => Below w6.heap.size w6 w)) (by kernel_rfl) (by kernel_rfl) (by kernel_rfl) (by kernel_rfl) (by kernel_rfl) (by kernel_rfl) rfl rfl ((Below.refl _ _).drew) ?steps ?done
                    case steps =>
                      refine ⟨?_, ?_, ?_, ?_, ?_, ?_, ?_, ?_, ?_, ?_, ?_, ?_, ?_, ?_, ?_, ?_, ?_, ?_, ?_, ?_, ?_, ?_, ?_, ?_, ?_, ?_, ?_, ?_, ?_, trivial⟩
                      · intro us au w1 k0 hlo hhi ha hd hst hI
                        obtain rfl : k0 = 0 := by omega
                        have q13 := slot_far (t := 13) (v := .pointer (some ⟨og, 0, none⟩)) ha (by kernel_rfl) (by kernel_rfl)
                        have p13 := slot_norm q13
                        clear ha hd hst
                        exact StepI.pure (v := .pointer (some ⟨og, 2, none⟩)) rfl rfl (by go_simp) ⟨rfl, hI⟩
                      · intro us au w1 k1 hlo hhi ha hd hst hI
                        obtain rfl : k1 = 0 := by omega
                        have e0 := hd 0 _ (by kernel_rfl) rfl
                        have q48 := slot_at (t := 48) 0 ha (by kernel_rfl) (by kernel_rfl) (by kernel_rfl) e0
                        have p48 := slot_norm q48
                        clear ha hd hst
                        have kk := (hI.cell (p := ⟨og, 2, none⟩) HOB.out).trans K2.out
                        exact StepI.pure (v := .string x.id) rfl rfl (by go_simp) ⟨rfl, hI⟩
                      · intro us au w1 k2 hlo hhi ha hd hst hI
                        obtain rfl : k2 = 0 := by omega
                        have e1 := hd 1 _ (by kernel_rfl) rfl
                        have q49 := slot_at (t := 49) 1 ha (by kernel_rfl) (by kernel_rfl) (by kernel_rfl) e1
                        have p49 := slot_norm q49
                        clear ha hd hst
                        refine StepI.call (f := 24) (args := #[.string x.id]) rfl rfl (by go_simp) ?_
                        refine (hash_any x.id w1 HIDS.out).mono ?_
                        rintro e w5 ⟨rfl, hb5⟩
                        rw [HHV.out]
                        exact ⟨_, rfl, rfl, hI.trans (hb5.mono hI.size)⟩
                      · intro us au w1 k3 hlo hhi ha hd hst hI
                        obtain rfl : k3 = 0 := by omega
                        have e2 := hd 2 _ (by kernel_rfl) rfl
                        have q50 := slot_at (t := 50) 2 ha (by kernel_rfl) (by kernel_rfl) (by kernel_rfl) e2
                        have p50 := slot_norm q50
                        clear ha hd hst
                        exact StepI.pure (v := .bool false) rfl rfl (by go_simp) ⟨rfl, hI⟩
                      · intro us au w1 k4 hlo hhi ha hd hst hI
                        obtain rfl : k4 = 0 := by omega
                        have e3 := hd 3 _ (by kernel_rfl) rfl
                        have q51 := slot_at (t := 51) 3 ha (by kernel_rfl) (by kernel_rfl) (by kernel_rfl) e3
                        have p51 := slot_norm q51
                        clear ha hd hst
                        exact StepI.pure (v := .bool false) rfl rfl (by go_simp) ⟨rfl, hI⟩
                      · intro us au w1 k5 hlo hhi ha hd hst hI
                        obtain rfl : k5 = 0 := by omega
                        have e4 := hd 4 _ (by kernel_rfl) rfl
                        have q12 := slot_far (t := 12) (v := .int .i64 (k : Int)) ha (by kernel_rfl) (by kernel_rfl)
                        have p12 := slot_norm q12
                        have hg := slot_at (t := 52) 4 ha (by kernel_rfl) (by kernel_rfl) (by kernel_rfl) e4
                        clear ha hd hst
                        exact StepI.pure (v := .int .i64 (k : Int)) rfl (wanted_at rfl rfl hg) (by go_simp) ⟨rfl, hI⟩
                      · intro us au w1 k6 hlo hhi ha hd hst hI
                        obtain rfl : k6 = 0 := by omega
                        have e5 := hd 5 _ (by kernel_rfl) rfl
                        have e4 := hd 4 _ (by kernel_rfl) rfl
                        have q53 := slot_at (t := 53) 5 ha (by kernel_rfl) (by kernel_rfl) (by kernel_rfl) e5
                        have p53 := slot_norm q53
                        have hg := slot_at (t := 52) 4 ha (by kernel_rfl) (by kernel_rfl) (by kernel_rfl) e4
                        clear ha hd hst
                        exact StepI.pure (v := .bool false) rfl (wanted_at rfl rfl hg) (by go_simp) ⟨rfl, hI⟩
                      · intro us au w1 k7 hlo hhi ha hd hst hI
                        obtain rfl : k7 = 0 := by omega
                        have e6 := hd 6 _ (by kernel_rfl) rfl
                        have e4 := hd 4 _ (by kernel_rfl) rfl
                        have q54 := slot_at (t := 54) 6 ha (by kernel_rfl) (by kernel_rfl) (by kernel_rfl) e6
                        have p54 := slot_norm q54
                        have hg := slot_at (t := 52) 4 ha (by kernel_rfl) (by kernel_rfl) (by kernel_rfl) e4
                        clear ha hd hst
                        exact StepI.pure (v := .bool false) rfl (wanted_at rfl rfl hg) (by go_simp) ⟨rfl, hI⟩
                      · intro us au w1 k8 hlo hhi ha hd hst hI
                        obtain rfl : k8 = 0 := by omega
                        have e7 := hd 7 _ (by kernel_rfl) rfl
                        have hg := slot_at (t := 55) 7 ha (by kernel_rfl) (by kernel_rfl) (by kernel_rfl) e7
                        exact StepI.skip rfl (unwanted_at rfl rfl hg rfl) ⟨rfl, hI⟩
                      · intro us au w1 k9 hlo hhi ha hd hst hI
                        obtain rfl : k9 = 0 := by omega
                        have e7 := hd 7 _ (by kernel_rfl) rfl
                        have hg := slot_at (t := 55) 7 ha (by kernel_rfl) (by kernel_rfl) (by kernel_rfl) e7
                        exact StepI.skip rfl (unwanted_at rfl rfl hg rfl) ⟨rfl, hI⟩
                      · intro us au w1 k10 hlo hhi ha hd hst hI
                        obtain rfl : k10 = 0 := by omega
                        have e7 := hd 7 _ (by kernel_rfl) rfl
                        have hg := slot_at (t := 55) 7 ha (by kernel_rfl) (by kernel_rfl) (by kernel_rfl) e7
                        exact StepI.skip rfl (unwanted_at rfl rfl hg rfl) ⟨rfl, hI⟩
                      · intro us au w1 k11 hlo hhi ha hd hst hI
                        obtain rfl : k11 = 0 := by omega
                        have e7 := hd 7 _ (by kernel_rfl) rfl
                        have hg := slot_at (t := 55) 7 ha (by kernel_rfl) (by kernel_rfl) (by kernel_rfl) e7
                        exact StepI.skip rfl (unwanted_at rfl rfl hg rfl) ⟨rfl, hI⟩
                      · intro us au w1 k12 hlo hhi ha hd hst hI
                        obtain rfl : k12 = 0 := by omega
                        have e7 := hd 7 _ (by kernel_rfl) rfl
                        have hg := slot_at (t := 55) 7 ha (by kernel_rfl) (by kernel_rfl) (by kernel_rfl) e7
                        exact StepI.skip rfl (unwanted_at rfl rfl hg rfl) ⟨rfl, hI⟩
                      · intro us au w1 k13 hlo hhi ha hd hst hI
                        obtain rfl : k13 = 0 := by omega
                        have e7 := hd 7 _ (by kernel_rfl) rfl
                        have hg := slot_at (t := 55) 7 ha (by kernel_rfl) (by kernel_rfl) (by kernel_rfl) e7
                        exact StepI.skip rfl (unwanted_at rfl rfl hg rfl) ⟨rfl, hI⟩
                      · intro us au w1 k14 hlo hhi ha hd hst hI
                        obtain rfl : k14 = 0 := by omega
                        have e7 := hd 7 _ (by kernel_rfl) rfl
                        have hg := slot_at (t := 55) 7 ha (by kernel_rfl) (by kernel_rfl) (by kernel_rfl) e7
                        exact StepI.skip rfl (unwanted_at rfl rfl hg rfl) ⟨rfl, hI⟩
                      · intro us au w1 k15 hlo hhi ha hd hst hI
                        obtain rfl : k15 = 0 := by omega
                        have e7 := hd 7 _ (by kernel_rfl) rfl
                        have hg := slot_at (t := 55) 7 ha (by kernel_rfl) (by kernel_rfl) (by kernel_rfl) e7
                        exact StepI.skip rfl (unwanted_at rfl rfl hg rfl) ⟨rfl, hI⟩
                      · intro us au w1 k16 hlo hhi ha hd hst hI
                        obtain rfl : k16 = 0 := by omega
                        have e7 := hd 7 _ (by kernel_rfl) rfl
                        have hg := slot_at (t := 55) 7 ha (by kernel_rfl) (by kernel_rfl) (by kernel_rfl) e7
                        exact StepI.skip rfl (unwanted_at rfl rfl hg rfl) ⟨rfl, hI⟩
                      · intro us au w1 k17 hlo hhi ha hd hst hI
                        obtain rfl : k17 = 0 := by omega
                        have e7 := hd 7 _ (by kernel_rfl) rfl
                        have e16 := hd 16 _ (by kernel_rfl) rfl
                        have e4 := hd 4 _ (by kernel_rfl) rfl
                        have q55 := slot_at (t := 55) 7 ha (by kernel_rfl) (by kernel_rfl) (by kernel_rfl) e7
                        have p55 := slot_norm q55
                        have q64 := slot_at (t := 64) 16 ha (by kernel_rfl) (by kernel_rfl) (by kernel_rfl) e16
                        have p64 := slot_norm q64
                        have hg := slot_at (t := 52) 4 ha (by kernel_rfl) (by kernel_rfl) (by kernel_rfl) e4
                        clear ha hd hst
                        exact StepI.pure (v := .bool false) rfl (wanted_at rfl rfl hg) (by go_simp) ⟨rfl, hI⟩
                      · intro us au w1 k18 hlo hhi ha hd hst hI
                        obtain rfl : k18 = 0 := by omega
                        have e4 := hd 4 _ (by kernel_rfl) rfl
                        have e17 := hd 17 _ (by kernel_rfl) rfl
                        have q52 := slot_at (t := 52) 4 ha (by kernel_rfl) (by kernel_rfl) (by kernel_rfl) e4
                        have p52 := slot_norm q52
                        have q65 := slot_at (t := 65) 17 ha (by kernel_rfl) (by kernel_rfl) (by kernel_rfl) e17
                        have p65 := slot_norm q65
                        clear ha hd hst
                        exact StepI.pure (v := .bool false) rfl rfl (by go_simp) ⟨rfl, hI⟩
                      · intro us au w1 k19 hlo hhi ha hd hst hI
                        obtain rfl : k19 = 0 := by omega
                        have e18 := hd 18 _ (by kernel_rfl) rfl
                        have q66 := slot_at (t := 66) 18 ha (by kernel_rfl) (by kernel_rfl) (by kernel_rfl) e18
                        have p66 := slot_norm q66
                        clear ha hd hst
                        exact StepI.pure (v := .bool false) rfl rfl (by go_simp) ⟨rfl, hI⟩
                      · intro us au w1 k20 hlo hhi ha hd hst hI
                        obtain rfl : k20 = 0 := by omega
                        have e19 := hd 19 _ (by kernel_rfl) rfl
                        have q13 := slot_far (t := 13) (v := .pointer (some ⟨og, 0, none⟩)) ha (by kernel_rfl) (by kernel_rfl)
                        have p13 := slot_norm q13
                        have hg := slot_at (t := 67) 19 ha (by kernel_rfl) (by kernel_rfl) (by kernel_rfl) e19
                        clear ha hd hst
                        exact StepI.pure (v := .pointer (some ⟨og, 3, none⟩)) rfl (wanted_at rfl rfl hg) (by go_simp) ⟨rfl, hI⟩
                      · intro us au w1 k21 hlo hhi ha hd hst hI
                        obtain rfl : k21 = 0 := by omega
                        have e20 := hd 20 _ (by kernel_rfl) rfl
                        have e19 := hd 19 _ (by kernel_rfl) rfl
                        have q68 := slot_at (t := 68) 20 ha (by kernel_rfl) (by kernel_rfl) (by kernel_rfl) e20
                        have p68 := slot_norm q68
                        have hg := slot_at (t := 67) 19 ha (by kernel_rfl) (by kernel_rfl) (by kernel_rfl) e19
                        clear ha hd hst
                        have kk := (hI.cell (p := ⟨og, 3, none⟩) HOB.out).trans K3.out
                        exact StepI.pure (v := .int .i64 x.at_) rfl (wanted_at rfl rfl hg) (by go_simp) ⟨rfl, hI⟩
                      · intro us au w1 k22 hlo hhi ha hd hst hI
                        obtain rfl : k22 = 0 := by omega
                        have e21 := hd 21 _ (by kernel_rfl) rfl
                        have e19 := hd 19 _ (by kernel_rfl) rfl
                        have q69 := slot_at (t := 69) 21 ha (by kernel_rfl) (by kernel_rfl) (by kernel_rfl) e21
                        have p69 := slot_norm q69
                        have hg := slot_at (t := 67) 19 ha (by kernel_rfl) (by kernel_rfl) (by kernel_rfl) e19
                        clear ha hd hst
                        exact StepI.pure (v := .bool false) rfl (wanted_at rfl rfl hg) (by go_simp) ⟨rfl, hI⟩
                      · intro us au w1 k23 hlo hhi ha hd hst hI
                        obtain rfl : k23 = 0 := by omega
                        have e19 := hd 19 _ (by kernel_rfl) rfl
                        have e22 := hd 22 _ (by kernel_rfl) rfl
                        have q67 := slot_at (t := 67) 19 ha (by kernel_rfl) (by kernel_rfl) (by kernel_rfl) e19
                        have p67 := slot_norm q67
                        have q70 := slot_at (t := 70) 22 ha (by kernel_rfl) (by kernel_rfl) (by kernel_rfl) e22
                        have p70 := slot_norm q70
                        clear ha hd hst
                        exact StepI.pure (v := .bool false) rfl rfl (by go_simp) ⟨rfl, hI⟩
                      · intro us au w1 k24 hlo hhi ha hd hst hI
                        obtain rfl : k24 = 0 := by omega
                        have e23 := hd 23 _ (by kernel_rfl) rfl
                        have q71 := slot_at (t := 71) 23 ha (by kernel_rfl) (by kernel_rfl) (by kernel_rfl) e23
                        have p71 := slot_norm q71
                        clear ha hd hst
                        exact StepI.pure (v := .bool false) rfl rfl (by go_simp) ⟨rfl, hI⟩
                      · intro us au w1 k25 hlo hhi ha hd hst hI
                        obtain rfl : k25 = 0 := by omega
                        have e24 := hd 24 _ (by kernel_rfl) rfl
                        have q13 := slot_far (t := 13) (v := .pointer (some ⟨og, 0, none⟩)) ha (by kernel_rfl) (by kernel_rfl)
                        have p13 := slot_norm q13
                        have hg := slot_at (t := 72) 24 ha (by kernel_rfl) (by kernel_rfl) (by kernel_rfl) e24
                        clear ha hd hst
                        exact StepI.pure (v := .pointer (some ⟨og, 3, none⟩)) rfl (wanted_at rfl rfl hg) (by go_simp) ⟨rfl, hI⟩
                      · intro us au w1 k26 hlo hhi ha hd hst hI
                        obtain rfl : k26 = 0 := by omega
                        have e25 := hd 25 _ (by kernel_rfl) rfl
                        have e24 := hd 24 _ (by kernel_rfl) rfl
                        have q73 := slot_at (t := 73) 25 ha (by kernel_rfl) (by kernel_rfl) (by kernel_rfl) e25
                        have p73 := slot_norm q73
                        have hg := slot_at (t := 72) 24 ha (by kernel_rfl) (by kernel_rfl) (by kernel_rfl) e24
                        clear ha hd hst
                        have kk := (hI.cell (p := ⟨og, 3, none⟩) HOB.out).trans K3.out
                        exact StepI.pure (v := .int .i64 x.at_) rfl (wanted_at rfl rfl hg) (by go_simp) ⟨rfl, hI⟩
                      · intro us au w1 k27 hlo hhi ha hd hst hI
                        obtain rfl : k27 = 0 := by omega
                        have e26 := hd 26 _ (by kernel_rfl) rfl
                        have e24 := hd 24 _ (by kernel_rfl) rfl
                        have q74 := slot_at (t := 74) 26 ha (by kernel_rfl) (by kernel_rfl) (by kernel_rfl) e26
                        have p74 := slot_norm q74
                        have hg := slot_at (t := 72) 24 ha (by kernel_rfl) (by kernel_rfl) (by kernel_rfl) e24
                        clear ha hd hst
                        exact StepI.pure (v := .bool false) rfl (wanted_at rfl rfl hg) (by go_simp) ⟨rfl, hI⟩
                      · intro us au w1 k28 hlo hhi ha hd hst hI
                        obtain rfl : k28 = 0 := by omega
                        have e24 := hd 24 _ (by kernel_rfl) rfl
                        have e27 := hd 27 _ (by kernel_rfl) rfl
                        have q72 := slot_at (t := 72) 24 ha (by kernel_rfl) (by kernel_rfl) (by kernel_rfl) e24
                        have p72 := slot_norm q72
                        have q75 := slot_at (t := 75) 27 ha (by kernel_rfl) (by kernel_rfl) (by kernel_rfl) e27
                        have p75 := slot_norm q75
                        clear ha hd hst
                        exact StepI.pure (v := .bool false) rfl rfl (by go_simp) ⟨rfl, hI⟩
                    case done =>
                      intro us w1 hI hd
                      have e76 := hd 28 _ (by decide) rfl
                      have HBQ := Lib.hid hI
                      clear hd hI
                      simp only [putAll]
                      go_simp
                      go_wp2
                      go_meet
                      exact ⟨⟨_, rfl, by rw [HBD.out, HOX.out, HS0.out, decide_eq_true (by omega : x.at_ ≤ 4611686018427387904), decide_eq_true (by omega : 0 ≤ x.at_)]; rfl⟩, HBQ.out⟩
              · obtain ⟨j, hj⟩ : ∃ j : Nat, k = j + 1 := ⟨k - 1, by omega⟩
                have d3 : decide ((0 : Int) < (k : Int)) = true := decide_eq_true (by omega)
                have d3' : decide (0 < k) = true := decide_eq_true (by omega)
                have s4 : IntKind.i64.wrap ((k : Int) - 1) = (j : Int) := by rw [IntWalk.i64_in _ (by omega)]; omega
                have s5 : (k : Int) - 1 = (j : Int) := by omega
                have hj2 : (j : Int) < (N : Int) := by omega
                obtain ⟨y, hy⟩ : ∃ y, S[j]? = some y := ⟨_, List.getElem?_eq_getElem (by rw [HSL.out]; omega)⟩
                have HSM : Hid (sameAt S k = decide (y.id = x.id)) := Lib.hid (by have := HX.out; rw [hj] at this ⊢; exact sameAt_succ this hy)
                obtain ⟨g', off', hA', hg', hcell'⟩ := ObE.of_own HO6.out (by rw [HSL.out]; omega)
                injection hA' with hA'
                injection hA' with h1 h2
                subst h1; subst h2
                have HGB := Lib.hid hg'
                have HY2 : Hid (w6.cell? ⟨g, off + j * 5 + 2, none⟩ = some (.string y.id)) := Lib.hid (hcell' j 2 y hy (by decide))
                clear hk0 hj hy hcell' hg'
                by_cases hsame : y.id = x.id
                · have e1 : (y.id.toList == x.id.toList) = true := by rw [hsame]; simp
                  have HS1 : Hid (decide (y.id = x.id) = true) := Lib.hid (decide_eq_true hsame)
                  clear hsame
                  refine wp_region_ph (by kernel_rfl) [] [.span 0 0, .span 0 0, .span 0 0, .span 0 0, .span 0 0, .span 0 0, .span 0 0, .span 0 0, .span 0 0, .span 0 0, .span 0 0, .span 0 0, .span 0 0, .span 0 0, .span 0 0, .span 0 0, .span 0 0, .span 0 0, .span 0 0, .span 0 0, .span 0 0, .span 0 0, .span 0 0, .span 0 0, .span 0 0, .span 0 0, .span 0 0, .span 0 0, .span 0 0] [fun z9 => z9 = .pointer (some ⟨og, 2, none⟩), fun z9 => z9 = .string x.id, fun z9 => z9 = .bool true, fun z9 => z9 = .bool false, fun z9 => z9 = .bool false, fun z9 => z9 = .int .i64 (k : Int), fun z9 => z9 = .bool true, fun z9 => z9 = .bool true, fun z9 => z9 = .slice (some ⟨g, off, none⟩) N c1, fun z9 => z9 = .int .i64 (k : Int), fun z9 => z9 = .int .i64 (j : Int), fun z9 => z9 = .pointer (some ⟨g, off + j * 5, none⟩), fun z9 => z9 = .pointer (some ⟨g, off + j * 5 + 2, none⟩), fun z9 => z9 = .string y.id, fun z9 => z9 = .pointer (some ⟨og, 2, none⟩), fun z9 => z9 = .string x.id, fun z9 => z9 = .bool true, fun z9 => z9 = .bool true, fun z9 => z9 = .bool true, fun z9 => z9 = .bool true, fun z9 => z9 = undef, fun z9 => z9 = undef, fun z9 => z9 = undef, fun z9 => z9 = .bool true, fun z9 => z9 = .bool true, fun z9 => z9 = undef, fun z9 => z9 = undef, fun z9 => z9 = undef, fun z9 => z9 = .bool true] ((fun _ w => Below w6.heap.size w6 w)) (by kernel_rfl) (by kernel_rfl) (by kernel_rfl) (by kernel_rfl) (by kernel_rfl) (by kernel_rfl) rfl rfl ((Below.refl _ _).drew) ?steps ?done
                  case steps =>
                    refine ⟨?_, ?_, ?_, ?_, ?_, ?_, ?_, ?_, ?_, ?_, ?_, ?_, ?_, ?_, ?_, ?_, ?_, ?_, ?_, ?_, ?_, ?_, ?_, ?_, ?_, ?_, ?_, ?_, ?_, trivial⟩
                    · intro us au w1 k0 hlo hhi ha hd hst hI
                      obtain rfl : k0 = 0 := by omega
                      have q13 := slot_far (t := 13) (v := .pointer (some ⟨og, 0, none⟩)) ha (by kernel_rfl) (by kernel_rfl)
                      have p13 := slot_norm q13
                      clear ha hd hst
                      exact StepI.pure (v := .pointer (some ⟨og, 2, none⟩)) rfl rfl (by go_simp) ⟨rfl, hI⟩
                    · intro us au w1 k1 hlo hhi ha hd hst hI
                      obtain rfl : k1 = 0 := by omega
                      have e0 := hd 0 _ (by kernel_rfl) rfl
                      have q48 := slot_at (t := 48) 0 ha (by kernel_rfl) (by kernel_rfl) (by kernel_rfl) e0
                      have p48 := slot_norm q48
                      clear ha hd hst
                      have kk := (hI.cell (p := ⟨og, 2, none⟩) HOB.out).trans K2.out
                      exact StepI.pure (v := .string x.id) rfl rfl (by go_simp) ⟨rfl, hI⟩
                    · intro us au w1 k2 hlo hhi ha hd hst hI
                      obtain rfl : k2 = 0 := by omega
                      have e1 := hd 1 _ (by kernel_rfl) rfl
                      have q49 := slot_at (t := 49) 1 ha (by kernel_rfl) (by kernel_rfl) (by kernel_rfl) e1
                      have p49 := slot_norm q49
                      clear ha hd hst
                      refine StepI.call (f := 24) (args := #[.string x.id]) rfl rfl (by go_simp) ?_
                      refine (hash_any x.id w1 HIDS.out).mono ?_
                      rintro e w5 ⟨rfl, hb5⟩
                      rw [HHV.out]
                      exact ⟨_, rfl, rfl, hI.trans (hb5.mono hI.size)⟩
                    · intro us au w1 k3 hlo hhi ha hd hst hI
                      obtain rfl : k3 = 0 := by omega
                      have e2 := hd 2 _ (by kernel_rfl) rfl
                      have q50 := slot_at (t := 50) 2 ha (by kernel_rfl) (by kernel_rfl) (by kernel_rfl) e2
                      have p50 := slot_norm q50
                      clear ha hd hst
                      exact StepI.pure (v := .bool false) rfl rfl (by go_simp) ⟨rfl, hI⟩
                    · intro us au w1 k4 hlo hhi ha hd hst hI
                      obtain rfl : k4 = 0 := by omega
                      have e3 := hd 3 _ (by kernel_rfl) rfl
                      have q51 := slot_at (t := 51) 3 ha (by kernel_rfl) (by kernel_rfl) (by kernel_rfl) e3
                      have p51 := slot_norm q51
                      clear ha hd hst
                      exact StepI.pure (v := .bool false) rfl rfl (by go_simp) ⟨rfl, hI⟩
                    · intro us au w1 k5 hlo hhi ha hd hst hI
                      obtain rfl : k5 = 0 := by omega
                      have e4 := hd 4 _ (by kernel_rfl) rfl
                      have q12 := slot_far (t := 12) (v := .int .i64 (k : Int)) ha (by kernel_rfl) (by kernel_rfl)
                      have p12 := slot_norm q12
                      have hg := slot_at (t := 52) 4 ha (by kernel_rfl) (by kernel_rfl) (by kernel_rfl) e4
                      clear ha hd hst
                      exact StepI.pure (v := .int .i64 (k : Int)) rfl (wanted_at rfl rfl hg) (by go_simp) ⟨rfl, hI⟩
                    · intro us au w1 k6 hlo hhi ha hd hst hI
                      obtain rfl : k6 = 0 := by omega
                      have e5 := hd 5 _ (by kernel_rfl) rfl
                      have e4 := hd 4 _ (by kernel_rfl) rfl
                      have q53 := slot_at (t := 53) 5 ha (by kernel_rfl) (by kernel_rfl) (by kernel_rfl) e5
                      have p53 := slot_norm q53
                      have hg := slot_at (t := 52) 4 ha (by kernel_rfl) (by kernel_rfl) (by kernel_rfl) e4
                      clear ha hd hst
                      exact StepI.pure (v := .bool true) rfl (wanted_at rfl rfl hg) (by go_simp) ⟨rfl, hI⟩
                    · intro us au w1 k7 hlo hhi ha hd hst hI
                      obtain rfl : k7 = 0 := by omega
                      have e6 := hd 6 _ (by kernel_rfl) rfl
                      have e4 := hd 4 _ (by kernel_rfl) rfl
                      have q54 := slot_at (t := 54) 6 ha (by kernel_rfl) (by kernel_rfl) (by kernel_rfl) e6
                      have p54 := slot_norm q54
                      have hg := slot_at (t := 52) 4 ha (by kernel_rfl) (by kernel_rfl) (by kernel_rfl) e4
                      clear ha hd hst
                      exact StepI.pure (v := .bool true) rfl (wanted_at rfl rfl hg) (by go_simp) ⟨rfl, hI⟩
                    · intro us au w1 k8 hlo hhi ha hd hst hI
                      obtain rfl : k8 = 0 := by omega
                      have e7 := hd 7 _ (by kernel_rfl) rfl
                      have q0 := slot_far (t := 0) (v := .slice (some ⟨g, off, none⟩) N c1) ha (by kernel_rfl) (by kernel_rfl)
                      have p0 := slot_norm q0
                      have hg := slot_at (t := 55) 7 ha (by kernel_rfl) (by kernel_rfl) (by kernel_rfl) e7
                      clear ha hd hst
                      exact StepI.pure (v := .slice (some ⟨g, off, none⟩) N c1) rfl (wanted_at rfl rfl hg) (by go_simp) ⟨rfl, hI⟩
                    · intro us au w1 k9 hlo hhi ha hd hst hI
                      obtain rfl : k9 = 0 := by omega
                      have e7 := hd 7 _ (by kernel_rfl) rfl
                      have q12 := slot_far (t := 12) (v := .int .i64 (k : Int)) ha (by kernel_rfl) (by kernel_rfl)
                      have p12 := slot_norm q12
                      have hg := slot_at (t := 55) 7 ha (by kernel_rfl) (by kernel_rfl) (by kernel_rfl) e7
                      clear ha hd hst
                      exact StepI.pure (v := .int .i64 (k : Int)) rfl (wanted_at rfl rfl hg) (by go_simp) ⟨rfl, hI⟩
                    · intro us au w1 k10 hlo hhi ha hd hst hI
                      obtain rfl : k10 = 0 := by omega
                      have e9 := hd 9 _ (by kernel_rfl) rfl
                      have e7 := hd 7 _ (by kernel_rfl) rfl
                      have q57 := slot_at (t := 57) 9 ha (by kernel_rfl) (by kernel_rfl) (by kernel_rfl) e9
                      have p57 := slot_norm q57
                      have hg := slot_at (t := 55) 7 ha (by kernel_rfl) (by kernel_rfl) (by kernel_rfl) e7
                      clear ha hd hst
                      exact StepI.pure (v := .int .i64 (j : Int)) rfl (wanted_at rfl rfl hg) (by go_simp; exact IntWalk.i64_in _ (by omega)) ⟨rfl, hI⟩
                    · intro us au w1 k11 hlo hhi ha hd hst hI
                      obtain rfl : k11 = 0 := by omega
                      have e8 := hd 8 _ (by kernel_rfl) rfl
                      have e10 := hd 10 _ (by kernel_rfl) rfl
                      have e7 := hd 7 _ (by kernel_rfl) rfl
                      have q56 := slot_at (t := 56) 8 ha (by kernel_rfl) (by kernel_rfl) (by kernel_rfl) e8
                      have p56 := slot_norm q56
                      have q58 := slot_at (t := 58) 10 ha (by kernel_rfl) (by kernel_rfl) (by kernel_rfl) e10
                      have p58 := slot_norm q58
                      have hg := slot_at (t := 55) 7 ha (by kernel_rfl) (by kernel_rfl) (by kernel_rfl) e7
                      clear ha hd hst
                      exact StepI.pure (v := .pointer (some ⟨g, off + j * 5, none⟩)) rfl (wanted_at rfl rfl hg) (by go_simp) ⟨rfl, hI⟩
                    · intro us au w1 k12 hlo hhi ha hd hst hI
                      obtain rfl : k12 = 0 := by omega
                      have e11 := hd 11 _ (by kernel_rfl) rfl
                      have e7 := hd 7 _ (by kernel_rfl) rfl
                      have q59 := slot_at (t := 59) 11 ha (by kernel_rfl) (by kernel_rfl) (by kernel_rfl) e11
                      have p59 := slot_norm q59
                      have hg := slot_at (t := 55) 7 ha (by kernel_rfl) (by kernel_rfl) (by kernel_rfl) e7
                      clear ha hd hst
                      exact StepI.pure (v := .pointer (some ⟨g, off + j * 5 + 2, none⟩)) rfl (wanted_at rfl rfl hg) (by go_simp) ⟨rfl, hI⟩
                    · intro us au w1 k13 hlo hhi ha hd hst hI
                      obtain rfl : k13 = 0 := by omega
                      have e12 := hd 12 _ (by kernel_rfl) rfl
                      have e7 := hd 7 _ (by kernel_rfl) rfl
                      have q60 := slot_at (t := 60) 12 ha (by kernel_rfl) (by kernel_rfl) (by kernel_rfl) e12
                      have p60 := slot_norm q60
                      have hg := slot_at (t := 55) 7 ha (by kernel_rfl) (by kernel_rfl) (by kernel_rfl) e7
                      clear ha hd hst
                      have ky := (hI.cell (p := ⟨g, off + j * 5 + 2, none⟩) HGB.out).trans HY2.out
                      exact StepI.pure (v := .string y.id) rfl (wanted_at rfl rfl hg) (by go_simp) ⟨rfl, hI⟩
                    · intro us au w1 k14 hlo hhi ha hd hst hI
                      obtain rfl : k14 = 0 := by omega
                      have e7 := hd 7 _ (by kernel_rfl) rfl
                      have q13 := slot_far (t := 13) (v := .pointer (some ⟨og, 0, none⟩)) ha (by kernel_rfl) (by kernel_rfl)
                      have p13 := slot_norm q13
                      have hg := slot_at (t := 55) 7 ha (by kernel_rfl) (by kernel_rfl) (by kernel_rfl) e7
                      clear ha hd hst
                      exact StepI.pure (v := .pointer (some ⟨og, 2, none⟩)) rfl (wanted_at rfl rfl hg) (by go_simp) ⟨rfl, hI⟩
                    · intro us au w1 k15 hlo hhi ha hd hst hI
                      obtain rfl : k15 = 0 := by omega
                      have e14 := hd 14 _ (by kernel_rfl) rfl
                      have e7 := hd 7 _ (by kernel_rfl) rfl
                      have q62 := slot_at (t := 62) 14 ha (by kernel_rfl) (by kernel_rfl) (by kernel_rfl) e14
                      have p62 := slot_norm q62
                      have hg := slot_at (t := 55) 7 ha (by kernel_rfl) (by kernel_rfl) (by kernel_rfl) e7
                      clear ha hd hst
                      have kk := (hI.cell (p := ⟨og, 2, none⟩) HOB.out).trans K2.out
                      exact StepI.pure (v := .string x.id) rfl (wanted_at rfl rfl hg) (by go_simp) ⟨rfl, hI⟩
                    · intro us au w1 k16 hlo hhi ha hd hst hI
                      obtain rfl : k16 = 0 := by omega
                      have e13 := hd 13 _ (by kernel_rfl) rfl
                      have e15 := hd 15 _ (by kernel_rfl) rfl
                      have e7 := hd 7 _ (by kernel_rfl) rfl
                      have q61 := slot_at (t := 61) 13 ha (by kernel_rfl) (by kernel_rfl) (by kernel_rfl) e13
                      have p61 := slot_norm q61
                      have q63 := slot_at (t := 63) 15 ha (by kernel_rfl) (by kernel_rfl) (by kernel_rfl) e15
                      have p63 := slot_norm q63
                      have hg := slot_at (t := 55) 7 ha (by kernel_rfl) (by kernel_rfl) (by kernel_rfl) e7
                      clear ha hd hst
                      exact StepI.pure (v := .bool true) rfl (wanted_at rfl rfl hg) (by go_simp) ⟨rfl, hI⟩
                    · intro us au w1 k17 hlo hhi ha hd hst hI
                      obtain rfl : k17 = 0 := by omega
                      have e7 := hd 7 _ (by kernel_rfl) rfl
                      have e16 := hd 16 _ (by kernel_rfl) rfl
                      have e4 := hd 4 _ (by kernel_rfl) rfl
                      have q55 := slot_at (t := 55) 7 ha (by kernel_rfl) (by kernel_rfl) (by kernel_rfl) e7
                      have p55 := slot_norm q55
                      have q64 := slot_at (t := 64) 16 ha (by kernel_rfl) (by kernel_rfl) (by kernel_rfl) e16
                      have p64 := slot_norm q64
                      have hg := slot_at (t := 52) 4 ha (by kernel_rfl) (by kernel_rfl) (by kernel_rfl) e4
                      clear ha hd hst
                      exact StepI.pure (v := .bool true) rfl (wanted_at rfl rfl hg) (by go_simp) ⟨rfl, hI⟩
                    · intro us au w1 k18 hlo hhi ha hd hst hI
                      obtain rfl : k18 = 0 := by omega
                      have e4 := hd 4 _ (by kernel_rfl) rfl
                      have e17 := hd 17 _ (by kernel_rfl) rfl
                      have q52 := slot_at (t := 52) 4 ha (by kernel_rfl) (by kernel_rfl) (by kernel_rfl) e4
                      have p52 := slot_norm q52
                      have q65 := slot_at (t := 65) 17 ha (by kernel_rfl) (by kernel_rfl) (by kernel_rfl) e17
                      have p65 := slot_norm q65
                      clear ha hd hst
                      exact StepI.pure (v := .bool true) rfl rfl (by go_simp) ⟨rfl, hI⟩
                    · intro us au w1 k19 hlo hhi ha hd hst hI
                      obtain rfl : k19 = 0 := by omega
                      have e18 := hd 18 _ (by kernel_rfl) rfl
                      have q66 := slot_at (t := 66) 18 ha (by kernel_rfl) (by kernel_rfl) (by kernel_rfl) e18
                      have p66 := slot_norm q66
                      clear ha hd hst
                      exact StepI.pure (v := .bool true) rfl rfl (by go_simp) ⟨rfl, hI⟩
                    · intro us au w1 k20 hlo hhi ha hd hst hI
                      obtain rfl : k20 = 0 := by omega
                      have e19 := hd 19 _ (by kernel_rfl) rfl
                      have hg := slot_at (t := 67) 19 ha (by kernel_rfl) (by kernel_rfl) (by kernel_rfl) e19
                      exact StepI.skip rfl (unwanted_at rfl rfl hg rfl) ⟨rfl, hI⟩
                    · intro us au w1 k21 hlo hhi ha hd hst hI
                      obtain rfl : k21 = 0 := by omega
                      have e19 := hd 19 _ (by kernel_rfl) rfl
                      have hg := slot_at (t := 67) 19 ha (by kernel_rfl) (by kernel_rfl) (by kernel_rfl) e19
                      exact StepI.skip rfl (unwanted_at rfl rfl hg rfl) ⟨rfl, hI⟩
                    · intro us au w1 k22 hlo hhi ha hd hst hI
                      obtain rfl : k22 = 0 := by omega
                      have e19 := hd 19 _ (by kernel_rfl) rfl
                      have hg := slot_at (t := 67) 19 ha (by kernel_rfl) (by kernel_rfl) (by kernel_rfl) e19
                      exact StepI.skip rfl (unwanted_at rfl rfl hg rfl) ⟨rfl, hI⟩
                    · intro us au w1 k23 hlo hhi ha hd hst hI
                      obtain rfl : k23 = 0 := by omega
                      have e19 := hd 19 _ (by kernel_rfl) rfl
                      have e22 := hd 22 _ (by kernel_rfl) rfl
                      have q67 := slot_at (t := 67) 19 ha (by kernel_rfl) (by kernel_rfl) (by kernel_rfl) e19
                      have p67 := slot_norm q67
                      have q70 := slot_at (t := 70) 22 ha (by kernel_rfl) (by kernel_rfl) (by kernel_rfl) e22
                      have p70 := slot_norm q70
                      clear ha hd hst
                      exact StepI.pure (v := .bool true) rfl rfl (by go_simp) ⟨rfl, hI⟩
                    · intro us au w1 k24 hlo hhi ha hd hst hI
                      obtain rfl : k24 = 0 := by omega
                      have e23 := hd 23 _ (by kernel_rfl) rfl
                      have q71 := slot_at (t := 71) 23 ha (by kernel_rfl) (by kernel_rfl) (by kernel_rfl) e23
                      have p71 := slot_norm q71
                      clear ha hd hst
                      exact StepI.pure (v := .bool true) rfl rfl (by go_simp) ⟨rfl, hI⟩
                    · intro us au w1 k25 hlo hhi ha hd hst hI
                      obtain rfl : k25 = 0 := by omega
                      have e24 := hd 24 _ (by kernel_rfl) rfl
                      have hg := slot_at (t := 72) 24 ha (by kernel_rfl) (by kernel_rfl) (by kernel_rfl) e24
                      exact StepI.skip rfl (unwanted_at rfl rfl hg rfl) ⟨rfl, hI⟩
                    · intro us au w1 k26 hlo hhi ha hd hst hI
                      obtain rfl : k26 = 0 := by omega
                      have e24 := hd 24 _ (by kernel_rfl) rfl
                      have hg := slot_at (t := 72) 24 ha (by kernel_rfl) (by kernel_rfl) (by kernel_rfl) e24
                      exact StepI.skip rfl (unwanted_at rfl rfl hg rfl) ⟨rfl, hI⟩
                    · intro us au w1 k27 hlo hhi ha hd hst hI
                      obtain rfl : k27 = 0 := by omega
                      have e24 := hd 24 _ (by kernel_rfl) rfl
                      have hg := slot_at (t := 72) 24 ha (by kernel_rfl) (by kernel_rfl) (by kernel_rfl) e24
                      exact StepI.skip rfl (unwanted_at rfl rfl hg rfl) ⟨rfl, hI⟩
                    · intro us au w1 k28 hlo hhi ha hd hst hI
                      obtain rfl : k28 = 0 := by omega
                      have e24 := hd 24 _ (by kernel_rfl) rfl
                      have e27 := hd 27 _ (by kernel_rfl) rfl
                      have q72 := slot_at (t := 72) 24 ha (by kernel_rfl) (by kernel_rfl) (by kernel_rfl) e24
                      have p72 := slot_norm q72
                      have q75 := slot_at (t := 75) 27 ha (by kernel_rfl) (by kernel_rfl) (by kernel_rfl) e27
                      have p75 := slot_norm q75
                      clear ha hd hst
                      exact StepI.pure (v := .bool true) rfl rfl (by go_simp) ⟨rfl, hI⟩
                  case done =>
                    intro us w1 hI hd
                    have e76 := hd 28 _ (by decide) rfl
                    have HBQ := Lib.hid hI
                    clear hd hI
                    simp only [putAll]
                    go_simp
                    go_wp2
                    go_meet
                    exact ⟨⟨_, rfl, by rw [HBD.out, HSM.out, HS1.out]; rfl⟩, HBQ.out⟩
                · have e1 : (y.id.toList == x.id.toList) = false := by
                    rw [beq_eq_false_iff_ne]
                    intro h
                    rw [ByteArray.toList_eq, ByteArray.toList_eq] at h
                    exact hsame (ByteArray.ext (Array.toList_inj.1 h))
                  have HS1 : Hid (decide (y.id = x.id) = false) := Lib.hid (decide_eq_false hsame)
                  clear hsame
                  by_cases hneg : x.at_ < 0
                  · have d4 : decide (x.at_ < 0) = true := decide_eq_true hneg
                    refine wp_region_ph (by kernel_rfl) [] [.span 0 0, .span 0 0, .span 0 0, .span 0 0, .span 0 0, .span 0 0, .span 0 0, .span 0 0, .span 0 0, .span 0 0, .span 0 0, .span 0 0, .span 0 0, .span 0 0, .span 0 0, .span 0 0, .span 0 0, .span 0 0, .span 0 0, .span 0 0, .span 0 0, .span 0 0, .span 0 0, .span 0 0, .span 0 0, .span 0 0, .span 0 0, .span 0 0, .span 0 0] [fun z9 => z9 = .pointer (some ⟨og, 2, none⟩), fun z9 => z9 = .string x.id, fun z9 => z9 = .bool true, fun z9 => z9 = .bool false, fun z9 => z9 = .bool false, fun z9 => z9 = .int .i64 (k : Int), fun z9 => z9 = .bool true, fun z9 => z9 = .bool true, fun z9 => z9 = .slice (some ⟨g, off, none⟩) N c1, fun z9 => z9 = .int .i64 (k : Int), fun z9 => z9 = .int .i64 (j : Int), fun z9 => z9 = .pointer (some ⟨g, off + j * 5, none⟩), fun z9 => z9 = .pointer (some ⟨g, off + j * 5 + 2, none⟩), fun z9 => z9 = .string y.id, fun z9 => z9 = .pointer (some ⟨og, 2, none⟩), fun z9 => z9 = .string x.id, fun z9 => z9 = .bool false, fun z9 => z9 = .bool false, fun z9 => z9 = .bool false, fun z9 => z9 = .bool false, fun z9 => z9 = .pointer (some ⟨og, 3, none⟩), fun z9 => z9 = .int .i64 x.at_, fun z9 => z9 = .bool true, fun z9 => z9 = .bool true, fun z9 => z9 = .bool true, fun z9 => z9 = undef, fun z9 => z9 = undef, fun z9 => z9 = undef, fun z9 => z9 = .bool true] ((fun _ w => Below w6.heap.size w6 w)) (by kernel_rfl) (by kernel_rfl) (by kernel_rfl) (by kernel_rfl) (by kernel_rfl) (by kernel_rfl) rfl rfl ((Below.refl _ _).drew) ?steps ?done
                    case steps =>
                      refine ⟨?_, ?_, ?_, ?_, ?_, ?_, ?_, ?_, ?_, ?_, ?_, ?_, ?_, ?_, ?_, ?_, ?_, ?_, ?_, ?_, ?_, ?_, ?_, ?_, ?_, ?_, ?_, ?_, ?_, trivial⟩
                      · intro us au w1 k0 hlo hhi ha hd hst hI
                        obtain rfl : k0 = 0 := by omega
                        have q13 := slot_far (t := 13) (v := .pointer (some ⟨og, 0, none⟩)) ha (by kernel_rfl) (by kernel_rfl)
                        have p13 := slot_norm q13
                        clear ha hd hst
                        exact StepI.pure (v := .pointer (some ⟨og, 2, none⟩)) rfl rfl (by go_simp) ⟨rfl, hI⟩
                      · intro us au w1 k1 hlo hhi ha hd hst hI
                        obtain rfl : k1 = 0 := by omega
                        have e0 := hd 0 _ (by kernel_rfl) rfl
                        have q48 := slot_at (t := 48) 0 ha (by kernel_rfl) (by kernel_rfl) (by kernel_rfl) e0
                        have p48 := slot_norm q48
                        clear ha hd hst
                        have kk := (hI.cell (p := ⟨og, 2, none⟩) HOB.out).trans K2.out
                        exact StepI.pure (v := .string x.id) rfl rfl (by go_simp) ⟨rfl, hI⟩
                      · intro us au w1 k2 hlo hhi ha hd hst hI
                        obtain rfl : k2 = 0 := by omega
                        have e1 := hd 1 _ (by kernel_rfl) rfl
                        have q49 := slot_at (t := 49) 1 ha (by kernel_rfl) (by kernel_rfl) (by kernel_rfl) e1
                        have p49 := slot_norm q49
                        clear ha hd hst
                        refine StepI.call (f := 24) (args := #[.string x.id]) rfl rfl (by go_simp) ?_
                        refine (hash_any x.id w1 HIDS.out).mono ?_
                        rintro e w5 ⟨rfl, hb5⟩
                        rw [HHV.out]
                        exact ⟨_, rfl, rfl, hI.trans (hb5.mono hI.size)⟩
                      · intro us au w1 k3 hlo hhi ha hd hst hI
                        obtain rfl : k3 = 0 := by omega
                        have e2 := hd 2 _ (by kernel_rfl) rfl
                        have q50 := slot_at (t := 50) 2 ha (by kernel_rfl) (by kernel_rfl) (by kernel_rfl) e2
                        have p50 := slot_norm q50
                        clear ha hd hst
                        exact StepI.pure (v := .bool false) rfl rfl (by go_simp) ⟨rfl, hI⟩
                      · intro us au w1 k4 hlo hhi ha hd hst hI
                        obtain rfl : k4 = 0 := by omega
                        have e3 := hd 3 _ (by kernel_rfl) rfl
                        have q51 := slot_at (t := 51) 3 ha (by kernel_rfl) (by kernel_rfl) (by kernel_rfl) e3
                        have p51 := slot_norm q51
                        clear ha hd hst
                        exact StepI.pure (v := .bool false) rfl rfl (by go_simp) ⟨rfl, hI⟩
                      · intro us au w1 k5 hlo hhi ha hd hst hI
                        obtain rfl : k5 = 0 := by omega
                        have e4 := hd 4 _ (by kernel_rfl) rfl
                        have q12 := slot_far (t := 12) (v := .int .i64 (k : Int)) ha (by kernel_rfl) (by kernel_rfl)
                        have p12 := slot_norm q12
                        have hg := slot_at (t := 52) 4 ha (by kernel_rfl) (by kernel_rfl) (by kernel_rfl) e4
                        clear ha hd hst
                        exact StepI.pure (v := .int .i64 (k : Int)) rfl (wanted_at rfl rfl hg) (by go_simp) ⟨rfl, hI⟩
                      · intro us au w1 k6 hlo hhi ha hd hst hI
                        obtain rfl : k6 = 0 := by omega
                        have e5 := hd 5 _ (by kernel_rfl) rfl
                        have e4 := hd 4 _ (by kernel_rfl) rfl
                        have q53 := slot_at (t := 53) 5 ha (by kernel_rfl) (by kernel_rfl) (by kernel_rfl) e5
                        have p53 := slot_norm q53
                        have hg := slot_at (t := 52) 4 ha (by kernel_rfl) (by kernel_rfl) (by kernel_rfl) e4
                        clear ha hd hst
                        exact StepI.pure (v := .bool true) rfl (wanted_at rfl rfl hg) (by go_simp) ⟨rfl, hI⟩
                      · intro us au w1 k7 hlo hhi ha hd hst hI
                        obtain rfl : k7 = 0 := by omega
                        have e6 := hd 6 _ (by kernel_rfl) rfl
                        have e4 := hd 4 _ (by kernel_rfl) rfl
                        have q54 := slot_at (t := 54) 6 ha (by kernel_rfl) (by kernel_rfl) (by kernel_rfl) e6
                        have p54 := slot_norm q54
                        have hg := slot_at (t := 52) 4 ha (by kernel_rfl) (by kernel_rfl) (by kernel_rfl) e4
                        clear ha hd hst
                        exact StepI.pure (v := .bool true) rfl (wanted_at rfl rfl hg) (by go_simp) ⟨rfl, hI⟩
                      · intro us au w1 k8 hlo hhi ha hd hst hI
                        obtain rfl : k8 = 0 := by omega
                        have e7 := hd 7 _ (by kernel_rfl) rfl
                        have q0 := slot_far (t := 0) (v := .slice (some ⟨g, off, none⟩) N c1) ha (by kernel_rfl) (by kernel_rfl)
                        have p0 := slot_norm q0
                        have hg := slot_at (t := 55) 7 ha (by kernel_rfl) (by kernel_rfl) (by kernel_rfl) e7
                        clear ha hd hst
                        exact StepI.pure (v := .slice (some ⟨g, off, none⟩) N c1) rfl (wanted_at rfl rfl hg) (by go_simp) ⟨rfl, hI⟩
                      · intro us au w1 k9 hlo hhi ha hd hst hI
                        obtain rfl : k9 = 0 := by omega
                        have e7 := hd 7 _ (by kernel_rfl) rfl
                        have q12 := slot_far (t := 12) (v := .int .i64 (k : Int)) ha (by kernel_rfl) (by kernel_rfl)
                        have p12 := slot_norm q12
                        have hg := slot_at (t := 55) 7 ha (by kernel_rfl) (by kernel_rfl) (by kernel_rfl) e7
                        clear ha hd hst
                        exact StepI.pure (v := .int .i64 (k : Int)) rfl (wanted_at rfl rfl hg) (by go_simp) ⟨rfl, hI⟩
                      · intro us au w1 k10 hlo hhi ha hd hst hI
                        obtain rfl : k10 = 0 := by omega
                        have e9 := hd 9 _ (by kernel_rfl) rfl
                        have e7 := hd 7 _ (by kernel_rfl) rfl
                        have q57 := slot_at (t := 57) 9 ha (by kernel_rfl) (by kernel_rfl) (by kernel_rfl) e9
                        have p57 := slot_norm q57
                        have hg := slot_at (t := 55) 7 ha (by kernel_rfl) (by kernel_rfl) (by kernel_rfl) e7
                        clear ha hd hst
                        exact StepI.pure (v := .int .i64 (j : Int)) rfl (wanted_at rfl rfl hg) (by go_simp; exact IntWalk.i64_in _ (by omega)) ⟨rfl, hI⟩
                      · intro us au w1 k11 hlo hhi ha hd hst hI
                        obtain rfl : k11 = 0 := by omega
                        have e8 := hd 8 _ (by kernel_rfl) rfl
                        have e10 := hd 10 _ (by kernel_rfl) rfl
                        have e7 := hd 7 _ (by kernel_rfl) rfl
                        have q56 := slot_at (t := 56) 8 ha (by kernel_rfl) (by kernel_rfl) (by kernel_rfl) e8
                        have p56 := slot_norm q56
                        have q58 := slot_at (t := 58) 10 ha (by kernel_rfl) (by kernel_rfl) (by kernel_rfl) e10
                        have p58 := slot_norm q58
                        have hg := slot_at (t := 55) 7 ha (by kernel_rfl) (by kernel_rfl) (by kernel_rfl) e7
                        clear ha hd hst
                        exact StepI.pure (v := .pointer (some ⟨g, off + j * 5, none⟩)) rfl (wanted_at rfl rfl hg) (by go_simp) ⟨rfl, hI⟩
                      · intro us au w1 k12 hlo hhi ha hd hst hI
                        obtain rfl : k12 = 0 := by omega
                        have e11 := hd 11 _ (by kernel_rfl) rfl
                        have e7 := hd 7 _ (by kernel_rfl) rfl
                        have q59 := slot_at (t := 59) 11 ha (by kernel_rfl) (by kernel_rfl) (by kernel_rfl) e11
                        have p59 := slot_norm q59
                        have hg := slot_at (t := 55) 7 ha (by kernel_rfl) (by kernel_rfl) (by kernel_rfl) e7
                        clear ha hd hst
                        exact StepI.pure (v := .pointer (some ⟨g, off + j * 5 + 2, none⟩)) rfl (wanted_at rfl rfl hg) (by go_simp) ⟨rfl, hI⟩
                      · intro us au w1 k13 hlo hhi ha hd hst hI
                        obtain rfl : k13 = 0 := by omega
                        have e12 := hd 12 _ (by kernel_rfl) rfl
                        have e7 := hd 7 _ (by kernel_rfl) rfl
                        have q60 := slot_at (t := 60) 12 ha (by kernel_rfl) (by kernel_rfl) (by kernel_rfl) e12
                        have p60 := slot_norm q60
                        have hg := slot_at (t := 55) 7 ha (by kernel_rfl) (by kernel_rfl) (by kernel_rfl) e7
                        clear ha hd hst
                        have ky := (hI.cell (p := ⟨g, off + j * 5 + 2, none⟩) HGB.out).trans HY2.out
                        exact StepI.pure (v := .string y.id) rfl (wanted_at rfl rfl hg) (by go_simp) ⟨rfl, hI⟩
                      · intro us au w1 k14 hlo hhi ha hd hst hI
                        obtain rfl : k14 = 0 := by omega
                        have e7 := hd 7 _ (by kernel_rfl) rfl
                        have q13 := slot_far (t := 13) (v := .pointer (some ⟨og, 0, none⟩)) ha (by kernel_rfl) (by kernel_rfl)
                        have p13 := slot_norm q13
                        have hg := slot_at (t := 55) 7 ha (by kernel_rfl) (by kernel_rfl) (by kernel_rfl) e7
                        clear ha hd hst
                        exact StepI.pure (v := .pointer (some ⟨og, 2, none⟩)) rfl (wanted_at rfl rfl hg) (by go_simp) ⟨rfl, hI⟩
                      · intro us au w1 k15 hlo hhi ha hd hst hI
                        obtain rfl : k15 = 0 := by omega
                        have e14 := hd 14 _ (by kernel_rfl) rfl
                        have e7 := hd 7 _ (by kernel_rfl) rfl
                        have q62 := slot_at (t := 62) 14 ha (by kernel_rfl) (by kernel_rfl) (by kernel_rfl) e14
                        have p62 := slot_norm q62
                        have hg := slot_at (t := 55) 7 ha (by kernel_rfl) (by kernel_rfl) (by kernel_rfl) e7
                        clear ha hd hst
                        have kk := (hI.cell (p := ⟨og, 2, none⟩) HOB.out).trans K2.out
                        exact StepI.pure (v := .string x.id) rfl (wanted_at rfl rfl hg) (by go_simp) ⟨rfl, hI⟩
                      · intro us au w1 k16 hlo hhi ha hd hst hI
                        obtain rfl : k16 = 0 := by omega
                        have e13 := hd 13 _ (by kernel_rfl) rfl
                        have e15 := hd 15 _ (by kernel_rfl) rfl
                        have e7 := hd 7 _ (by kernel_rfl) rfl
                        have q61 := slot_at (t := 61) 13 ha (by kernel_rfl) (by kernel_rfl) (by kernel_rfl) e13
                        have p61 := slot_norm q61
                        have q63 := slot_at (t := 63) 15 ha (by kernel_rfl) (by kernel_rfl) (by kernel_rfl) e15
                        have p63 := slot_norm q63
                        have hg := slot_at (t := 55) 7 ha (by kernel_rfl) (by kernel_rfl) (by kernel_rfl) e7
                        clear ha hd hst
                        exact StepI.pure (v := .bool false) rfl (wanted_at rfl rfl hg) (by go_simp) ⟨rfl, hI⟩
                      · intro us au w1 k17 hlo hhi ha hd hst hI
                        obtain rfl : k17 = 0 := by omega
                        have e7 := hd 7 _ (by kernel_rfl) rfl
                        have e16 := hd 16 _ (by kernel_rfl) rfl
                        have e4 := hd 4 _ (by kernel_rfl) rfl
                        have q55 := slot_at (t := 55) 7 ha (by kernel_rfl) (by kernel_rfl) (by kernel_rfl) e7
                        have p55 := slot_norm q55
                        have q64 := slot_at (t := 64) 16 ha (by kernel_rfl) (by kernel_rfl) (by kernel_rfl) e16
                        have p64 := slot_norm q64
                        have hg := slot_at (t := 52) 4 ha (by kernel_rfl) (by kernel_rfl) (by kernel_rfl) e4
                        clear ha hd hst
                        exact StepI.pure (v := .bool false) rfl (wanted_at rfl rfl hg) (by go_simp) ⟨rfl, hI⟩
                      · intro us au w1 k18 hlo hhi ha hd hst hI
                        obtain rfl : k18 = 0 := by omega
                        have e4 := hd 4 _ (by kernel_rfl) rfl
                        have e17 := hd 17 _ (by kernel_rfl) rfl
                        have q52 := slot_at (t := 52) 4 ha (by kernel_rfl) (by kernel_rfl) (by kernel_rfl) e4
                        have p52 := slot_norm q52
                        have q65 := slot_at (t := 65) 17 ha (by kernel_rfl) (by kernel_rfl) (by kernel_rfl) e17
                        have p65 := slot_norm q65
                        clear ha hd hst
                        exact StepI.pure (v := .bool false) rfl rfl (by go_simp) ⟨rfl, hI⟩
                      · intro us au w1 k19 hlo hhi ha hd hst hI
                        obtain rfl : k19 = 0 := by omega
                        have e18 := hd 18 _ (by kernel_rfl) rfl
                        have q66 := slot_at (t := 66) 18 ha (by kernel_rfl) (by kernel_rfl) (by kernel_rfl) e18
                        have p66 := slot_norm q66
                        clear ha hd hst
                        exact StepI.pure (v := .bool false) rfl rfl (by go_simp) ⟨rfl, hI⟩
                      · intro us au w1 k20 hlo hhi ha hd hst hI
                        obtain rfl : k20 = 0 := by omega
                        have e19 := hd 19 _ (by kernel_rfl) rfl
                        have q13 := slot_far (t := 13) (v := .pointer (some ⟨og, 0, none⟩)) ha (by kernel_rfl) (by kernel_rfl)
                        have p13 := slot_norm q13
                        have hg := slot_at (t := 67) 19 ha (by kernel_rfl) (by kernel_rfl) (by kernel_rfl) e19
                        clear ha hd hst
                        exact StepI.pure (v := .pointer (some ⟨og, 3, none⟩)) rfl (wanted_at rfl rfl hg) (by go_simp) ⟨rfl, hI⟩
                      · intro us au w1 k21 hlo hhi ha hd hst hI
                        obtain rfl : k21 = 0 := by omega
                        have e20 := hd 20 _ (by kernel_rfl) rfl
                        have e19 := hd 19 _ (by kernel_rfl) rfl
                        have q68 := slot_at (t := 68) 20 ha (by kernel_rfl) (by kernel_rfl) (by kernel_rfl) e20
                        have p68 := slot_norm q68
                        have hg := slot_at (t := 67) 19 ha (by kernel_rfl) (by kernel_rfl) (by kernel_rfl) e19
                        clear ha hd hst
                        have kk := (hI.cell (p := ⟨og, 3, none⟩) HOB.out).trans K3.out
                        exact StepI.pure (v := .int .i64 x.at_) rfl (wanted_at rfl rfl hg) (by go_simp) ⟨rfl, hI⟩
                      · intro us au w1 k22 hlo hhi ha hd hst hI
                        obtain rfl : k22 = 0 := by omega
                        have e21 := hd 21 _ (by kernel_rfl) rfl
                        have e19 := hd 19 _ (by kernel_rfl) rfl
                        have q69 := slot_at (t := 69) 21 ha (by kernel_rfl) (by kernel_rfl) (by kernel_rfl) e21
                        have p69 := slot_norm q69
                        have hg := slot_at (t := 67) 19 ha (by kernel_rfl) (by kernel_rfl) (by kernel_rfl) e19
                        clear ha hd hst
                        exact StepI.pure (v := .bool true) rfl (wanted_at rfl rfl hg) (by go_simp) ⟨rfl, hI⟩
                      · intro us au w1 k23 hlo hhi ha hd hst hI
                        obtain rfl : k23 = 0 := by omega
                        have e19 := hd 19 _ (by kernel_rfl) rfl
                        have e22 := hd 22 _ (by kernel_rfl) rfl
                        have q67 := slot_at (t := 67) 19 ha (by kernel_rfl) (by kernel_rfl) (by kernel_rfl) e19
                        have p67 := slot_norm q67
                        have q70 := slot_at (t := 70) 22 ha (by kernel_rfl) (by kernel_rfl) (by kernel_rfl) e22
                        have p70 := slot_norm q70
                        clear ha hd hst
                        exact StepI.pure (v := .bool true) rfl rfl (by go_simp) ⟨rfl, hI⟩
                      · intro us au w1 k24 hlo hhi ha hd hst hI
                        obtain rfl : k24 = 0 := by omega
                        have e23 := hd 23 _ (by kernel_rfl) rfl
                        have q71 := slot_at (t := 71) 23 ha (by kernel_rfl) (by kernel_rfl) (by kernel_rfl) e23
                        have p71 := slot_norm q71
                        clear ha hd hst
                        exact StepI.pure (v := .bool true) rfl rfl (by go_simp) ⟨rfl, hI⟩
                      · intro us au w1 k25 hlo hhi ha hd hst hI
                        obtain rfl : k25 = 0 := by omega
                        have e24 := hd 24 _ (by kernel_rfl) rfl
                        have hg := slot_at (t := 72) 24 ha (by kernel_rfl) (by kernel_rfl) (by kernel_rfl) e24
                        exact StepI.skip rfl (unwanted_at rfl rfl hg rfl) ⟨rfl, hI⟩
                      · intro us au w1 k26 hlo hhi ha hd hst hI
                        obtain rfl : k26 = 0 := by omega
                        have e24 := hd 24 _ (by kernel_rfl) rfl
                        have hg := slot_at (t := 72) 24 ha (by kernel_rfl) (by kernel_rfl) (by kernel_rfl) e24
                        exact StepI.skip rfl (unwanted_at rfl rfl hg rfl) ⟨rfl, hI⟩
                      · intro us au w1 k27 hlo hhi ha hd hst hI
                        obtain rfl : k27 = 0 := by omega
                        have e24 := hd 24 _ (by kernel_rfl) rfl
                        have hg := slot_at (t := 72) 24 ha (by kernel_rfl) (by kernel_rfl) (by kernel_rfl) e24
                        exact StepI.skip rfl (unwanted_at rfl rfl hg rfl) ⟨rfl, hI⟩
                      · intro us au w1 k28 hlo hhi ha hd hst hI
                        obtain rfl : k28 = 0 := by omega
                        have e24 := hd 24 _ (by kernel_rfl) rfl
                        have e27 := hd 27 _ (by kernel_rfl) rfl
                        have q72 := slot_at (t := 72) 24 ha (by kernel_rfl) (by kernel_rfl) (by kernel_rfl) e24
                        have p72 := slot_norm q72
                        have q75 := slot_at (t := 75) 27 ha (by kernel_rfl) (by kernel_rfl) (by kernel_rfl) e27
                        have p75 := slot_norm q75
                        clear ha hd hst
                        exact StepI.pure (v := .bool true) rfl rfl (by go_simp) ⟨rfl, hI⟩
                    case done =>
                      intro us w1 hI hd
                      have e76 := hd 28 _ (by decide) rfl
                      have HBQ := Lib.hid hI
                      clear hd hI
                      simp only [putAll]
                      go_simp
                      go_wp2
                      go_meet
                      exact ⟨⟨_, rfl, by rw [HBD.out, HOX.out, decide_eq_false (by omega : ¬ 0 ≤ x.at_)]; simp⟩, HBQ.out⟩
                  · have d4 : decide (x.at_ < 0) = false := decide_eq_false hneg
                    by_cases hbig : 4611686018427387904 < x.at_
                    · have d5 : decide (4611686018427387904 < x.at_) = true := decide_eq_true hbig
                      refine wp_region_ph (by kernel_rfl) [] [.span 0 0, .span 0 0, .span 0 0, .span 0 0, .span 0 0, .span 0 0, .span 0 0, .span 0 0, .span 0 0, .span 0 0, .span 0 0, .span 0 0, .span 0 0, .span 0 0, .span 0 0, .span 0 0, .span 0 0, .span 0 0, .span 0 0, .span 0 0, .span 0 0, .span 0 0, .span 0 0, .span 0 0, .span 0 0, .span 0 0, .span 0 0, .span 0 0, .span 0 0] [fun z9 => z9 = .pointer (some ⟨og, 2, none⟩), fun z9 => z9 = .string x.id, fun z9 => z9 = .bool true, fun z9 => z9 = .bool false, fun z9 => z9 = .bool false, fun z9 => z9 = .int .i64 (k : Int), fun z9 => z9 = .bool true, fun z9 => z9 = .bool true, fun z9 => z9 = .slice (some ⟨g, off, none⟩) N c1, fun z9 => z9 = .int .i64 (k : Int), fun z9 => z9 = .int .i64 (j : Int), fun z9 => z9 = .pointer (some ⟨g, off + j * 5, none⟩), fun z9 => z9 = .pointer (some ⟨g, off + j * 5 + 2, none⟩), fun z9 => z9 = .string y.id, fun z9 => z9 = .pointer (some ⟨og, 2, none⟩), fun z9 => z9 = .string x.id, fun z9 => z9 = .bool false, fun z9 => z9 = .bool false, fun z9 => z9 = .bool false, fun z9 => z9 = .bool false, fun z9 => z9 = .pointer (some ⟨og, 3, none⟩), fun z9 => z9 = .int .i64 x.at_, fun z9 => z9 = .bool false, fun z9 => z9 = .bool false, fun z9 => z9 = .bool false, fun z9 => z9 = .pointer (some ⟨og, 3, none⟩), fun z9 => z9 = .int .i64 x.at_, fun z9 => z9 = .bool true, fun z9 => z9 = .bool true] ((fun _ w => Below w6.heap.size w6 w)) (by kernel_rfl) (by kernel_rfl) (by kernel_rfl) (by kernel_rfl) (by kernel_rfl) (by kernel_rfl) rfl rfl ((Below.refl _ _).drew) ?steps ?done
                      case steps =>
                        refine ⟨?_, ?_, ?_, ?_, ?_, ?_, ?_, ?_, ?_, ?_, ?_, ?_, ?_, ?_, ?_, ?_, ?_, ?_, ?_, ?_, ?_, ?_, ?_, ?_, ?_, ?_, ?_, ?_, ?_, trivial⟩
                        · intro us au w1 k0 hlo hhi ha hd hst hI
                          obtain rfl : k0 = 0 := by omega
                          have q13 := slot_far (t := 13) (v := .pointer (some ⟨og, 0, none⟩)) ha (by kernel_rfl) (by kernel_rfl)
                          have p13 := slot_norm q13
                          clear ha hd hst
                          exact StepI.pure (v := .pointer (some ⟨og, 2, none⟩)) rfl rfl (by go_simp) ⟨rfl, hI⟩
                        · intro us au w1 k1 hlo hhi ha hd hst hI
                          obtain rfl : k1 = 0 := by omega
                          have e0 := hd 0 _ (by kernel_rfl) rfl
                          have q48 := slot_at (t := 48) 0 ha (by kernel_rfl) (by kernel_rfl) (by kernel_rfl) e0
                          have p48 := slot_norm q48
                          clear ha hd hst
                          have kk := (hI.cell (p := ⟨og, 2, none⟩) HOB.out).trans K2.out
                          exact StepI.pure (v := .string x.id) rfl rfl (by go_simp) ⟨rfl, hI⟩
                        · intro us au w1 k2 hlo hhi ha hd hst hI
                          obtain rfl : k2 = 0 := by omega
                          have e1 := hd 1 _ (by kernel_rfl) rfl
                          have q49 := slot_at (t := 49) 1 ha (by kernel_rfl) (by kernel_rfl) (by kernel_rfl) e1
                          have p49 := slot_norm q49
                          clear ha hd hst
                          refine StepI.call (f := 24) (args := #[.string x.id]) rfl rfl (by go_simp) ?_
                          refine (hash_any x.id w1 HIDS.out).mono ?_
                          rintro e w5 ⟨rfl, hb5⟩
                          rw [HHV.out]
                          exact ⟨_, rfl, rfl, hI.trans (hb5.mono hI.size)⟩
                        · intro us au w1 k3 hlo hhi ha hd hst hI
                          obtain rfl : k3 = 0 := by omega
                          have e2 := hd 2 _ (by kernel_rfl) rfl
                          have q50 := slot_at (t := 50) 2 ha (by kernel_rfl) (by kernel_rfl) (by kernel_rfl) e2
                          have p50 := slot_norm q50
                          clear ha hd hst
                          exact StepI.pure (v := .bool false) rfl rfl (by go_simp) ⟨rfl, hI⟩
                        · intro us au w1 k4 hlo hhi ha hd hst hI
                          obtain rfl : k4 = 0 := by omega
                          have e3 := hd 3 _ (by kernel_rfl) rfl
                          have q51 := slot_at (t := 51) 3 ha (by kernel_rfl) (by kernel_rfl) (by kernel_rfl) e3
                          have p51 := slot_norm q51
                          clear ha hd hst
                          exact StepI.pure (v := .bool false) rfl rfl (by go_simp) ⟨rfl, hI⟩
                        · intro us au w1 k5 hlo hhi ha hd hst hI
                          obtain rfl : k5 = 0 := by omega
                          have e4 := hd 4 _ (by kernel_rfl) rfl
                          have q12 := slot_far (t := 12) (v := .int .i64 (k : Int)) ha (by kernel_rfl) (by kernel_rfl)
                          have p12 := slot_norm q12
                          have hg := slot_at (t := 52) 4 ha (by kernel_rfl) (by kernel_rfl) (by kernel_rfl) e4
                          clear ha hd hst
                          exact StepI.pure (v := .int .i64 (k : Int)) rfl (wanted_at rfl rfl hg) (by go_simp) ⟨rfl, hI⟩
                        · intro us au w1 k6 hlo hhi ha hd hst hI
                          obtain rfl : k6 = 0 := by omega
                          have e5 := hd 5 _ (by kernel_rfl) rfl
                          have e4 := hd 4 _ (by kernel_rfl) rfl
                          have q53 := slot_at (t := 53) 5 ha (by kernel_rfl) (by kernel_rfl) (by kernel_rfl) e5
                          have p53 := slot_norm q53
                          have hg := slot_at (t := 52) 4 ha (by kernel_rfl) (by kernel_rfl) (by kernel_rfl) e4
                          clear ha hd hst
                          exact StepI.pure (v := .bool true) rfl (wanted_at rfl rfl hg) (by go_simp) ⟨rfl, hI⟩
                        · intro us au w1 k7 hlo hhi ha hd hst hI
                          obtain rfl : k7 = 0 := by omega
                          have e6 := hd 6 _ (by kernel_rfl) rfl
                          have e4 := hd 4 _ (by kernel_rfl) rfl
                          have q54 := slot_at (t := 54) 6 ha (by kernel_rfl) (by kernel_rfl) (by kernel_rfl) e6
                          have p54 := slot_norm q54
                          have hg := slot_at (t := 52) 4 ha (by kernel_rfl) (by kernel_rfl) (by kernel_rfl) e4
                          clear ha hd hst
                          exact StepI.pure (v := .bool true) rfl (wanted_at rfl rfl hg) (by go_simp) ⟨rfl, hI⟩
                        · intro us au w1 k8 hlo hhi ha hd hst hI
                          obtain rfl : k8 = 0 := by omega
                          have e7 := hd 7 _ (by kernel_rfl) rfl
                          have q0 := slot_far (t := 0) (v := .slice (some ⟨g, off, none⟩) N c1) ha (by kernel_rfl) (by kernel_rfl)
                          have p0 := slot_norm q0
                          have hg := slot_at (t := 55) 7 ha (by kernel_rfl) (by kernel_rfl) (by kernel_rfl) e7
                          clear ha hd hst
                          exact StepI.pure (v := .slice (some ⟨g, off, none⟩) N c1) rfl (wanted_at rfl rfl hg) (by go_simp) ⟨rfl, hI⟩
                        · intro us au w1 k9 hlo hhi ha hd hst hI
                          obtain rfl : k9 = 0 := by omega
                          have e7 := hd 7 _ (by kernel_rfl) rfl
                          have q12 := slot_far (t := 12) (v := .int .i64 (k : Int)) ha (by kernel_rfl) (by kernel_rfl)
                          have p12 := slot_norm q12
                          have hg := slot_at (t := 55) 7 ha (by kernel_rfl) (by kernel_rfl) (by kernel_rfl) e7
                          clear ha hd hst
                          exact StepI.pure (v := .int .i64 (k : Int)) rfl (wanted_at rfl rfl hg) (by go_simp) ⟨rfl, hI⟩
                        · intro us au w1 k10 hlo hhi ha hd hst hI
                          obtain rfl : k10 = 0 := by omega
                          have e9 := hd 9 _ (by kernel_rfl) rfl
                          have e7 := hd 7 _ (by kernel_rfl) rfl
                          have q57 := slot_at (t := 57) 9 ha (by kernel_rfl) (by kernel_rfl) (by kernel_rfl) e9
                          have p57 := slot_norm q57
                          have hg := slot_at (t := 55) 7 ha (by kernel_rfl) (by kernel_rfl) (by kernel_rfl) e7
                          clear ha hd hst
                          exact StepI.pure (v := .int .i64 (j : Int)) rfl (wanted_at rfl rfl hg) (by go_simp; exact IntWalk.i64_in _ (by omega)) ⟨rfl, hI⟩
                        · intro us au w1 k11 hlo hhi ha hd hst hI
                          obtain rfl : k11 = 0 := by omega
                          have e8 := hd 8 _ (by kernel_rfl) rfl
                          have e10 := hd 10 _ (by kernel_rfl) rfl
                          have e7 := hd 7 _ (by kernel_rfl) rfl
                          have q56 := slot_at (t := 56) 8 ha (by kernel_rfl) (by kernel_rfl) (by kernel_rfl) e8
                          have p56 := slot_norm q56
                          have q58 := slot_at (t := 58) 10 ha (by kernel_rfl) (by kernel_rfl) (by kernel_rfl) e10
                          have p58 := slot_norm q58
                          have hg := slot_at (t := 55) 7 ha (by kernel_rfl) (by kernel_rfl) (by kernel_rfl) e7
                          clear ha hd hst
                          exact StepI.pure (v := .pointer (some ⟨g, off + j * 5, none⟩)) rfl (wanted_at rfl rfl hg) (by go_simp) ⟨rfl, hI⟩
                        · intro us au w1 k12 hlo hhi ha hd hst hI
                          obtain rfl : k12 = 0 := by omega
                          have e11 := hd 11 _ (by kernel_rfl) rfl
                          have e7 := hd 7 _ (by kernel_rfl) rfl
                          have q59 := slot_at (t := 59) 11 ha (by kernel_rfl) (by kernel_rfl) (by kernel_rfl) e11
                          have p59 := slot_norm q59
                          have hg := slot_at (t := 55) 7 ha (by kernel_rfl) (by kernel_rfl) (by kernel_rfl) e7
                          clear ha hd hst
                          exact StepI.pure (v := .pointer (some ⟨g, off + j * 5 + 2, none⟩)) rfl (wanted_at rfl rfl hg) (by go_simp) ⟨rfl, hI⟩
                        · intro us au w1 k13 hlo hhi ha hd hst hI
                          obtain rfl : k13 = 0 := by omega
                          have e12 := hd 12 _ (by kernel_rfl) rfl
                          have e7 := hd 7 _ (by kernel_rfl) rfl
                          have q60 := slot_at (t := 60) 12 ha (by kernel_rfl) (by kernel_rfl) (by kernel_rfl) e12
                          have p60 := slot_norm q60
                          have hg := slot_at (t := 55) 7 ha (by kernel_rfl) (by kernel_rfl) (by kernel_rfl) e7
                          clear ha hd hst
                          have ky := (hI.cell (p := ⟨g, off + j * 5 + 2, none⟩) HGB.out).trans HY2.out
                          exact StepI.pure (v := .string y.id) rfl (wanted_at rfl rfl hg) (by go_simp) ⟨rfl, hI⟩
                        · intro us au w1 k14 hlo hhi ha hd hst hI
                          obtain rfl : k14 = 0 := by omega
                          have e7 := hd 7 _ (by kernel_rfl) rfl
                          have q13 := slot_far (t := 13) (v := .pointer (some ⟨og, 0, none⟩)) ha (by kernel_rfl) (by kernel_rfl)
                          have p13 := slot_norm q13
                          have hg := slot_at (t := 55) 7 ha (by kernel_rfl) (by kernel_rfl) (by kernel_rfl) e7
                          clear ha hd hst
                          exact StepI.pure (v := .pointer (some ⟨og, 2, none⟩)) rfl (wanted_at rfl rfl hg) (by go_simp) ⟨rfl, hI⟩
                        · intro us au w1 k15 hlo hhi ha hd hst hI
                          obtain rfl : k15 = 0 := by omega
                          have e14 := hd 14 _ (by kernel_rfl) rfl
                          have e7 := hd 7 _ (by kernel_rfl) rfl
                          have q62 := slot_at (t := 62) 14 ha (by kernel_rfl) (by kernel_rfl) (by kernel_rfl) e14
                          have p62 := slot_norm q62
                          have hg := slot_at (t := 55) 7 ha (by kernel_rfl) (by kernel_rfl) (by kernel_rfl) e7
                          clear ha hd hst
                          have kk := (hI.cell (p := ⟨og, 2, none⟩) HOB.out).trans K2.out
                          exact StepI.pure (v := .string x.id) rfl (wanted_at rfl rfl hg) (by go_simp) ⟨rfl, hI⟩
                        · intro us au w1 k16 hlo hhi ha hd hst hI
                          obtain rfl : k16 = 0 := by omega
                          have e13 := hd 13 _ (by kernel_rfl) rfl
                          have e15 := hd 15 _ (by kernel_rfl) rfl
                          have e7 := hd 7 _ (by kernel_rfl) rfl
                          have q61 := slot_at (t := 61) 13 ha (by kernel_rfl) (by kernel_rfl) (by kernel_rfl) e13
                          have p61 := slot_norm q61
                          have q63 := slot_at (t := 63) 15 ha (by kernel_rfl) (by kernel_rfl) (by kernel_rfl) e15
                          have p63 := slot_norm q63
                          have hg := slot_at (t := 55) 7 ha (by kernel_rfl) (by kernel_rfl) (by kernel_rfl) e7
                          clear ha hd hst
                          exact StepI.pure (v := .bool false) rfl (wanted_at rfl rfl hg) (by go_simp) ⟨rfl, hI⟩
                        · intro us au w1 k17 hlo hhi ha hd hst hI
                          obtain rfl : k17 = 0 := by omega
                          have e7 := hd 7 _ (by kernel_rfl) rfl
                          have e16 := hd 16 _ (by kernel_rfl) rfl
                          have e4 := hd 4 _ (by kernel_rfl) rfl
                          have q55 := slot_at (t := 55) 7 ha (by kernel_rfl) (by kernel_rfl) (by kernel_rfl) e7
                          have p55 := slot_norm q55
                          have q64 := slot_at (t := 64) 16 ha (by kernel_rfl) (by kernel_rfl) (by kernel_rfl) e16
                          have p64 := slot_norm q64
                          have hg := slot_at (t := 52) 4 ha (by kernel_rfl) (by kernel_rfl) (by kernel_rfl) e4
                          clear ha hd hst
                          exact StepI.pure (v := .bool false) rfl (wanted_at rfl rfl hg) (by go_simp) ⟨rfl, hI⟩
                        · intro us au w1 k18 hlo hhi ha hd hst hI
                          obtain rfl : k18 = 0 := by omega
                          have e4 := hd 4 _ (by kernel_rfl) rfl
                          have e17 := hd 17 _ (by kernel_rfl) rfl
                          have q52 := slot_at (t := 52) 4 ha (by kernel_rfl) (by kernel_rfl) (by kernel_rfl) e4
                          have p52 := slot_norm q52
                          have q65 := slot_at (t := 65) 17 ha (by kernel_rfl) (by kernel_rfl) (by kernel_rfl) e17
                          have p65 := slot_norm q65
                          clear ha hd hst
                          exact StepI.pure (v := .bool false) rfl rfl (by go_simp) ⟨rfl, hI⟩
                        · intro us au w1 k19 hlo hhi ha hd hst hI
                          obtain rfl : k19 = 0 := by omega
                          have e18 := hd 18 _ (by kernel_rfl) rfl
                          have q66 := slot_at (t := 66) 18 ha (by kernel_rfl) (by kernel_rfl) (by kernel_rfl) e18
                          have p66 := slot_norm q66
                          clear ha hd hst
                          exact StepI.pure (v := .bool false) rfl rfl (by go_simp) ⟨rfl, hI⟩
                        · intro us au w1 k20 hlo hhi ha hd hst hI
                          obtain rfl : k20 = 0 := by omega
                          have e19 := hd 19 _ (by kernel_rfl) rfl
                          have q13 := slot_far (t := 13) (v := .pointer (some ⟨og, 0, none⟩)) ha (by kernel_rfl) (by kernel_rfl)
                          have p13 := slot_norm q13
                          have hg := slot_at (t := 67) 19 ha (by kernel_rfl) (by kernel_rfl) (by kernel_rfl) e19
                          clear ha hd hst
                          exact StepI.pure (v := .pointer (some ⟨og, 3, none⟩)) rfl (wanted_at rfl rfl hg) (by go_simp) ⟨rfl, hI⟩
                        · intro us au w1 k21 hlo hhi ha hd hst hI
                          obtain rfl : k21 = 0 := by omega
                          have e20 := hd 20 _ (by kernel_rfl) rfl
                          have e19 := hd 19 _ (by kernel_rfl) rfl
                          have q68 := slot_at (t := 68) 20 ha (by kernel_rfl) (by kernel_rfl) (by kernel_rfl) e20
                          have p68 := slot_norm q68
                          have hg := slot_at (t := 67) 19 ha (by kernel_rfl) (by kernel_rfl) (by kernel_rfl) e19
                          clear ha hd hst
                          have kk := (hI.cell (p := ⟨og, 3, none⟩) HOB.out).trans K3.out
                          exact StepI.pure (v := .int .i64 x.at_) rfl (wanted_at rfl rfl hg) (by go_simp) ⟨rfl, hI⟩
                        · intro us au w1 k22 hlo hhi ha hd hst hI
                          obtain rfl : k22 = 0 := by omega
                          have e21 := hd 21 _ (by kernel_rfl) rfl
                          have e19 := hd 19 _ (by kernel_rfl) rfl
                          have q69 := slot_at (t := 69) 21 ha (by kernel_rfl) (by kernel_rfl) (by kernel_rfl) e21
                          have p69 := slot_norm q69
                          have hg := slot_at (t := 67) 19 ha (by kernel_rfl) (by kernel_rfl) (by kernel_rfl) e19
                          clear ha hd hst
                          exact StepI.pure (v := .bool false) rfl (wanted_at rfl rfl hg) (by go_simp) ⟨rfl, hI⟩
                        · intro us au w1 k23 hlo hhi ha hd hst hI
                          obtain rfl : k23 = 0 := by omega
                          have e19 := hd 19 _ (by kernel_rfl) rfl
                          have e22 := hd 22 _ (by kernel_rfl) rfl
                          have q67 := slot_at (t := 67) 19 ha (by kernel_rfl) (by kernel_rfl) (by kernel_rfl) e19
                          have p67 := slot_norm q67
                          have q70 := slot_at (t := 70) 22 ha (by kernel_rfl) (by kernel_rfl) (by kernel_rfl) e22
                          have p70 := slot_norm q70
                          clear ha hd hst
                          exact StepI.pure (v := .bool false) rfl rfl (by go_simp) ⟨rfl, hI⟩
                        · intro us au w1 k24 hlo hhi ha hd hst hI
                          obtain rfl : k24 = 0 := by omega
                          have e23 := hd 23 _ (by kernel_rfl) rfl
                          have q71 := slot_at (t := 71) 23 ha (by kernel_rfl) (by kernel_rfl) (by kernel_rfl) e23
                          have p71 := slot_norm q71
                          clear ha hd hst
                          exact StepI.pure (v := .bool false) rfl rfl (by go_simp) ⟨rfl, hI⟩
                        · intro us au w1 k25 hlo hhi ha hd hst hI
                          obtain rfl : k25 = 0 := by omega
                          have e24 := hd 24 _ (by kernel_rfl) rfl
                          have q13 := slot_far (t := 13) (v := .pointer (some ⟨og, 0, none⟩)) ha (by kernel_rfl) (by kernel_rfl)
                          have p13 := slot_norm q13
                          have hg := slot_at (t := 72) 24 ha (by kernel_rfl) (by kernel_rfl) (by kernel_rfl) e24
                          clear ha hd hst
                          exact StepI.pure (v := .pointer (some ⟨og, 3, none⟩)) rfl (wanted_at rfl rfl hg) (by go_simp) ⟨rfl, hI⟩
                        · intro us au w1 k26 hlo hhi ha hd hst hI
                          obtain rfl : k26 = 0 := by omega
                          have e25 := hd 25 _ (by kernel_rfl) rfl
                          have e24 := hd 24 _ (by kernel_rfl) rfl
                          have q73 := slot_at (t := 73) 25 ha (by kernel_rfl) (by kernel_rfl) (by kernel_rfl) e25
                          have p73 := slot_norm q73
                          have hg := slot_at (t := 72) 24 ha (by kernel_rfl) (by kernel_rfl) (by kernel_rfl) e24
                          clear ha hd hst
                          have kk := (hI.cell (p := ⟨og, 3, none⟩) HOB.out).trans K3.out
                          exact StepI.pure (v := .int .i64 x.at_) rfl (wanted_at rfl rfl hg) (by go_simp) ⟨rfl, hI⟩
                        · intro us au w1 k27 hlo hhi ha hd hst hI
                          obtain rfl : k27 = 0 := by omega
                          have e26 := hd 26 _ (by kernel_rfl) rfl
                          have e24 := hd 24 _ (by kernel_rfl) rfl
                          have q74 := slot_at (t := 74) 26 ha (by kernel_rfl) (by kernel_rfl) (by kernel_rfl) e26
                          have p74 := slot_norm q74
                          have hg := slot_at (t := 72) 24 ha (by kernel_rfl) (by kernel_rfl) (by kernel_rfl) e24
                          clear ha hd hst
                          exact StepI.pure (v := .bool true) rfl (wanted_at rfl rfl hg) (by go_simp) ⟨rfl, hI⟩
                        · intro us au w1 k28 hlo hhi ha hd hst hI
                          obtain rfl : k28 = 0 := by omega
                          have e24 := hd 24 _ (by kernel_rfl) rfl
                          have e27 := hd 27 _ (by kernel_rfl) rfl
                          have q72 := slot_at (t := 72) 24 ha (by kernel_rfl) (by kernel_rfl) (by kernel_rfl) e24
                          have p72 := slot_norm q72
                          have q75 := slot_at (t := 75) 27 ha (by kernel_rfl) (by kernel_rfl) (by kernel_rfl) e27
                          have p75 := slot_norm q75
                          clear ha hd hst
                          exact StepI.pure (v := .bool true) rfl rfl (by go_simp) ⟨rfl, hI⟩
                      case done =>
                        intro us w1 hI hd
                        have e76 := hd 28 _ (by decide) rfl
                        have HBQ := Lib.hid hI
                        clear hd hI
                        simp only [putAll]
                        go_simp
                        go_wp2
                        go_meet
                        exact ⟨⟨_, rfl, by rw [HBD.out, HOX.out, decide_eq_false (by omega : ¬ x.at_ ≤ 4611686018427387904)]; simp⟩, HBQ.out⟩
                    · have d5 : decide (4611686018427387904 < x.at_) = false := decide_eq_false hbig
                      refine wp_region_ph (by kernel_rfl) [] [.span 0 0, .span 0 0, .span 0 0, .span 0 0, .span 0 0, .span 0 0, .span 0 0, .span 0 0, .span 0 0, .span 0 0, .span 0 0, .span 0 0, .span 0 0, .span 0 0, .span 0 0, .span 0 0, .span 0 0, .span 0 0, .span 0 0, .span 0 0, .span 0 0, .span 0 0, .span 0 0, .span 0 0, .span 0 0, .span 0 0, .span 0 0, .span 0 0, .span 0 0] [fun z9 => z9 = .pointer (some ⟨og, 2, none⟩), fun z9 => z9 = .string x.id, fun z9 => z9 = .bool true, fun z9 => z9 = .bool false, fun z9 => z9 = .bool false, fun z9 => z9 = .int .i64 (k : Int), fun z9 => z9 = .bool true, fun z9 => z9 = .bool true, fun z9 => z9 = .slice (some ⟨g, off, none⟩) N c1, fun z9 => z9 = .int .i64 (k : Int), fun z9 => z9 = .int .i64 (j : Int), fun z9 => z9 = .pointer (some ⟨g, off + j * 5, none⟩), fun z9 => z9 = .pointer (some ⟨g, off + j * 5 + 2, none⟩), fun z9 => z9 = .string y.id, fun z9 => z9 = .pointer (some ⟨og, 2, none⟩), fun z9 => z9 = .string x.id, fun z9 => z9 = .bool false, fun z9 => z9 = .bool false, fun z9 => z9 = .bool false, fun z9 => z9 = .bool false, fun z9 => z9 = .pointer (some ⟨og, 3, none⟩), fun z9 => z9 = .int .i64 x.at_, fun z9 => z9 = .bool false, fun z9 => z9 = .bool false, fun z9 => z9 = .bool false, fun z9 => z9 = .pointer (some ⟨og, 3, none⟩), fun z9 => z9 = .int .i64 x.at_, fun z9 => z9 = .bool false, fun z9 => z9 = .bool false] ((fun _ w => Below w6.heap.size w6 w)) (by kernel_rfl) (by kernel_rfl) (by kernel_rfl) (by kernel_rfl) (by kernel_rfl) (by kernel_rfl) rfl rfl ((Below.refl _ _).drew) ?steps ?done
                      case steps =>
                        refine ⟨?_, ?_, ?_, ?_, ?_, ?_, ?_, ?_, ?_, ?_, ?_, ?_, ?_, ?_, ?_, ?_, ?_, ?_, ?_, ?_, ?_, ?_, ?_, ?_, ?_, ?_, ?_, ?_, ?_, trivial⟩
                        · intro us au w1 k0 hlo hhi ha hd hst hI
                          obtain rfl : k0 = 0 := by omega
                          have q13 := slot_far (t := 13) (v := .pointer (some ⟨og, 0, none⟩)) ha (by kernel_rfl) (by kernel_rfl)
                          have p13 := slot_norm q13
                          clear ha hd hst
                          exact StepI.pure (v := .pointer (some ⟨og, 2, none⟩)) rfl rfl (by go_simp) ⟨rfl, hI⟩
                        · intro us au w1 k1 hlo hhi ha hd hst hI
                          obtain rfl : k1 = 0 := by omega
                          have e0 := hd 0 _ (by kernel_rfl) rfl
                          have q48 := slot_at (t := 48) 0 ha (by kernel_rfl) (by kernel_rfl) (by kernel_rfl) e0
                          have p48 := slot_norm q48
                          clear ha hd hst
                          have kk := (hI.cell (p := ⟨og, 2, none⟩) HOB.out).trans K2.out
                          exact StepI.pure (v := .string x.id) rfl rfl (by go_simp) ⟨rfl, hI⟩
                        · intro us au w1 k2 hlo hhi ha hd hst hI
                          obtain rfl : k2 = 0 := by omega
                          have e1 := hd 1 _ (by kernel_rfl) rfl
                          have q49 := slot_at (t := 49) 1 ha (by kernel_rfl) (by kernel_rfl) (by kernel_rfl) e1
                          have p49 := slot_norm q49
                          clear ha hd hst
                          refine StepI.call (f := 24) (args := #[.string x.id]) rfl rfl (by go_simp) ?_
                          refine (hash_any x.id w1 HIDS.out).mono ?_
                          rintro e w5 ⟨rfl, hb5⟩
                          rw [HHV.out]
                          exact ⟨_, rfl, rfl, hI.trans (hb5.mono hI.size)⟩
                        · intro us au w1 k3 hlo hhi ha hd hst hI
                          obtain rfl : k3 = 0 := by omega
                          have e2 := hd 2 _ (by kernel_rfl) rfl
                          have q50 := slot_at (t := 50) 2 ha (by kernel_rfl) (by kernel_rfl) (by kernel_rfl) e2
                          have p50 := slot_norm q50
                          clear ha hd hst
                          exact StepI.pure (v := .bool false) rfl rfl (by go_simp) ⟨rfl, hI⟩
                        · intro us au w1 k4 hlo hhi ha hd hst hI
                          obtain rfl : k4 = 0 := by omega
                          have e3 := hd 3 _ (by kernel_rfl) rfl
                          have q51 := slot_at (t := 51) 3 ha (by kernel_rfl) (by kernel_rfl) (by kernel_rfl) e3
                          have p51 := slot_norm q51
                          clear ha hd hst
                          exact StepI.pure (v := .bool false) rfl rfl (by go_simp) ⟨rfl, hI⟩
                        · intro us au w1 k5 hlo hhi ha hd hst hI
                          obtain rfl : k5 = 0 := by omega
                          have e4 := hd 4 _ (by kernel_rfl) rfl
                          have q12 := slot_far (t := 12) (v := .int .i64 (k : Int)) ha (by kernel_rfl) (by kernel_rfl)
                          have p12 := slot_norm q12
                          have hg := slot_at (t := 52) 4 ha (by kernel_rfl) (by kernel_rfl) (by kernel_rfl) e4
                          clear ha hd hst
                          exact StepI.pure (v := .int .i64 (k : Int)) rfl (wanted_at rfl rfl hg) (by go_simp) ⟨rfl, hI⟩
                        · intro us au w1 k6 hlo hhi ha hd hst hI
                          obtain rfl : k6 = 0 := by omega
                          have e5 := hd 5 _ (by kernel_rfl) rfl
                          have e4 := hd 4 _ (by kernel_rfl) rfl
                          have q53 := slot_at (t := 53) 5 ha (by kernel_rfl) (by kernel_rfl) (by kernel_rfl) e5
                          have p53 := slot_norm q53
                          have hg := slot_at (t := 52) 4 ha (by kernel_rfl) (by kernel_rfl) (by kernel_rfl) e4
                          clear ha hd hst
                          exact StepI.pure (v := .bool true) rfl (wanted_at rfl rfl hg) (by go_simp) ⟨rfl, hI⟩
                        · intro us au w1 k7 hlo hhi ha hd hst hI
                          obtain rfl : k7 = 0 := by omega
                          have e6 := hd 6 _ (by kernel_rfl) rfl
                          have e4 := hd 4 _ (by kernel_rfl) rfl
                          have q54 := slot_at (t := 54) 6 ha (by kernel_rfl) (by kernel_rfl) (by kernel_rfl) e6
                          have p54 := slot_norm q54
                          have hg := slot_at (t := 52) 4 ha (by kernel_rfl) (by kernel_rfl) (by kernel_rfl) e4
                          clear ha hd hst
                          exact StepI.pure (v := .bool true) rfl (wanted_at rfl rfl hg) (by go_simp) ⟨rfl, hI⟩
                        · intro us au w1 k8 hlo hhi ha hd hst hI
                          obtain rfl : k8 = 0 := by omega
                          have e7 := hd 7 _ (by kernel_rfl) rfl
                          have q0 := slot_far (t := 0) (v := .slice (some ⟨g, off, none⟩) N c1) ha (by kernel_rfl) (by kernel_rfl)
                          have p0 := slot_norm q0
                          have hg := slot_at (t := 55) 7 ha (by kernel_rfl) (by kernel_rfl) (by kernel_rfl) e7
                          clear ha hd hst
                          exact StepI.pure (v := .slice (some ⟨g, off, none⟩) N c1) rfl (wanted_at rfl rfl hg) (by go_simp) ⟨rfl, hI⟩
                        · intro us au w1 k9 hlo hhi ha hd hst hI
                          obtain rfl : k9 = 0 := by omega
                          have e7 := hd 7 _ (by kernel_rfl) rfl
                          have q12 := slot_far (t := 12) (v := .int .i64 (k : Int)) ha (by kernel_rfl) (by kernel_rfl)
                          have p12 := slot_norm q12
                          have hg := slot_at (t := 55) 7 ha (by kernel_rfl) (by kernel_rfl) (by kernel_rfl) e7
                          clear ha hd hst
                          exact StepI.pure (v := .int .i64 (k : Int)) rfl (wanted_at rfl rfl hg) (by go_simp) ⟨rfl, hI⟩
                        · intro us au w1 k10 hlo hhi ha hd hst hI
                          obtain rfl : k10 = 0 := by omega
                          have e9 := hd 9 _ (by kernel_rfl) rfl
                          have e7 := hd 7 _ (by kernel_rfl) rfl
                          have q57 := slot_at (t := 57) 9 ha (by kernel_rfl) (by kernel_rfl) (by kernel_rfl) e9
                          have p57 := slot_norm q57
                          have hg := slot_at (t := 55) 7 ha (by kernel_rfl) (by kernel_rfl) (by kernel_rfl) e7
                          clear ha hd hst
                          exact StepI.pure (v := .int .i64 (j : Int)) rfl (wanted_at rfl rfl hg) (by go_simp; exact IntWalk.i64_in _ (by omega)) ⟨rfl, hI⟩
                        · intro us au w1 k11 hlo hhi ha hd hst hI
                          obtain rfl : k11 = 0 := by omega
                          have e8 := hd 8 _ (by kernel_rfl) rfl
                          have e10 := hd 10 _ (by kernel_rfl) rfl
                          have e7 := hd 7 _ (by kernel_rfl) rfl
                          have q56 := slot_at (t := 56) 8 ha (by kernel_rfl) (by kernel_rfl) (by kernel_rfl) e8
                          have p56 := slot_norm q56
                          have q58 := slot_at (t := 58) 10 ha (by kernel_rfl) (by kernel_rfl) (by kernel_rfl) e10
                          have p58 := slot_norm q58
                          have hg := slot_at (t := 55) 7 ha (by kernel_rfl) (by kernel_rfl) (by kernel_rfl) e7
                          clear ha hd hst
                          exact StepI.pure (v := .pointer (some ⟨g, off + j * 5, none⟩)) rfl (wanted_at rfl rfl hg) (by go_simp) ⟨rfl, hI⟩
                        · intro us au w1 k12 hlo hhi ha hd hst hI
                          obtain rfl : k12 = 0 := by omega
                          have e11 := hd 11 _ (by kernel_rfl) rfl
                          have e7 := hd 7 _ (by kernel_rfl) rfl
                          have q59 := slot_at (t := 59) 11 ha (by kernel_rfl) (by kernel_rfl) (by kernel_rfl) e11
                          have p59 := slot_norm q59
                          have hg := slot_at (t := 55) 7 ha (by kernel_rfl) (by kernel_rfl) (by kernel_rfl) e7
                          clear ha hd hst
                          exact StepI.pure (v := .pointer (some ⟨g, off + j * 5 + 2, none⟩)) rfl (wanted_at rfl rfl hg) (by go_simp) ⟨rfl, hI⟩
                        · intro us au w1 k13 hlo hhi ha hd hst hI
                          obtain rfl : k13 = 0 := by omega
                          have e12 := hd 12 _ (by kernel_rfl) rfl
                          have e7 := hd 7 _ (by kernel_rfl) rfl
                          have q60 := slot_at (t := 60) 12 ha (by kernel_rfl) (by kernel_rfl) (by kernel_rfl) e12
                          have p60 := slot_norm q60
                          have hg := slot_at (t := 55) 7 ha (by kernel_rfl) (by kernel_rfl) (by kernel_rfl) e7
                          clear ha hd hst
                          have ky := (hI.cell (p := ⟨g, off + j * 5 + 2, none⟩) HGB.out).trans HY2.out
                          exact StepI.pure (v := .string y.id) rfl (wanted_at rfl rfl hg) (by go_simp) ⟨rfl, hI⟩
                        · intro us au w1 k14 hlo hhi ha hd hst hI
                          obtain rfl : k14 = 0 := by omega
                          have e7 := hd 7 _ (by kernel_rfl) rfl
                          have q13 := slot_far (t := 13) (v := .pointer (some ⟨og, 0, none⟩)) ha (by kernel_rfl) (by kernel_rfl)
                          have p13 := slot_norm q13
                          have hg := slot_at (t := 55) 7 ha (by kernel_rfl) (by kernel_rfl) (by kernel_rfl) e7
                          clear ha hd hst
                          exact StepI.pure (v := .pointer (some ⟨og, 2, none⟩)) rfl (wanted_at rfl rfl hg) (by go_simp) ⟨rfl, hI⟩
                        · intro us au w1 k15 hlo hhi ha hd hst hI
                          obtain rfl : k15 = 0 := by omega
                          have e14 := hd 14 _ (by kernel_rfl) rfl
                          have e7 := hd 7 _ (by kernel_rfl) rfl
                          have q62 := slot_at (t := 62) 14 ha (by kernel_rfl) (by kernel_rfl) (by kernel_rfl) e14
                          have p62 := slot_norm q62
                          have hg := slot_at (t := 55) 7 ha (by kernel_rfl) (by kernel_rfl) (by kernel_rfl) e7
                          clear ha hd hst
                          have kk := (hI.cell (p := ⟨og, 2, none⟩) HOB.out).trans K2.out
                          exact StepI.pure (v := .string x.id) rfl (wanted_at rfl rfl hg) (by go_simp) ⟨rfl, hI⟩
                        · intro us au w1 k16 hlo hhi ha hd hst hI
                          obtain rfl : k16 = 0 := by omega
                          have e13 := hd 13 _ (by kernel_rfl) rfl
                          have e15 := hd 15 _ (by kernel_rfl) rfl
                          have e7 := hd 7 _ (by kernel_rfl) rfl
                          have q61 := slot_at (t := 61) 13 ha (by kernel_rfl) (by kernel_rfl) (by kernel_rfl) e13
                          have p61 := slot_norm q61
                          have q63 := slot_at (t := 63) 15 ha (by kernel_rfl) (by kernel_rfl) (by kernel_rfl) e15
                          have p63 := slot_norm q63
                          have hg := slot_at (t := 55) 7 ha (by kernel_rfl) (by kernel_rfl) (by kernel_rfl) e7
                          clear ha hd hst
                          exact StepI.pure (v := .bool false) rfl (wanted_at rfl rfl hg) (by go_simp) ⟨rfl, hI⟩
                        · intro us au w1 k17 hlo hhi ha hd hst hI
                          obtain rfl : k17 = 0 := by omega
                          have e7 := hd 7 _ (by kernel_rfl) rfl
                          have e16 := hd 16 _ (by kernel_rfl) rfl
                          have e4 := hd 4 _ (by kernel_rfl) rfl
                          have q55 := slot_at (t := 55) 7 ha (by kernel_rfl) (by kernel_rfl) (by kernel_rfl) e7
                          have p55 := slot_norm q55
                          have q64 := slot_at (t := 64) 16 ha (by kernel_rfl) (by kernel_rfl) (by kernel_rfl) e16
                          have p64 := slot_norm q64
                          have hg := slot_at (t := 52) 4 ha (by kernel_rfl) (by kernel_rfl) (by kernel_rfl) e4
                          clear ha hd hst
                          exact StepI.pure (v := .bool false) rfl (wanted_at rfl rfl hg) (by go_simp) ⟨rfl, hI⟩
                        · intro us au w1 k18 hlo hhi ha hd hst hI
                          obtain rfl : k18 = 0 := by omega
                          have e4 := hd 4 _ (by kernel_rfl) rfl
                          have e17 := hd 17 _ (by kernel_rfl) rfl
                          have q52 := slot_at (t := 52) 4 ha (by kernel_rfl) (by kernel_rfl) (by kernel_rfl) e4
                          have p52 := slot_norm q52
                          have q65 := slot_at (t := 65) 17 ha (by kernel_rfl) (by kernel_rfl) (by kernel_rfl) e17
                          have p65 := slot_norm q65
                          clear ha hd hst
                          exact StepI.pure (v := .bool false) rfl rfl (by go_simp) ⟨rfl, hI⟩
                        · intro us au w1 k19 hlo hhi ha hd hst hI
                          obtain rfl : k19 = 0 := by omega
                          have e18 := hd 18 _ (by kernel_rfl) rfl
                          have q66 := slot_at (t := 66) 18 ha (by kernel_rfl) (by kernel_rfl) (by kernel_rfl) e18
                          have p66 := slot_norm q66
                          clear ha hd hst
                          exact StepI.pure (v := .bool false) rfl rfl (by go_simp) ⟨rfl, hI⟩
                        · intro us au w1 k20 hlo hhi ha hd hst hI
                          obtain rfl : k20 = 0 := by omega
                          have e19 := hd 19 _ (by kernel_rfl) rfl
                          have q13 := slot_far (t := 13) (v := .pointer (some ⟨og, 0, none⟩)) ha (by kernel_rfl) (by kernel_rfl)
                          have p13 := slot_norm q13
                          have hg := slot_at (t := 67) 19 ha (by kernel_rfl) (by kernel_rfl) (by kernel_rfl) e19
                          clear ha hd hst
                          exact StepI.pure (v := .pointer (some ⟨og, 3, none⟩)) rfl (wanted_at rfl rfl hg) (by go_simp) ⟨rfl, hI⟩
                        · intro us au w1 k21 hlo hhi ha hd hst hI
                          obtain rfl : k21 = 0 := by omega
                          have e20 := hd 20 _ (by kernel_rfl) rfl
                          have e19 := hd 19 _ (by kernel_rfl) rfl
                          have q68 := slot_at (t := 68) 20 ha (by kernel_rfl) (by kernel_rfl) (by kernel_rfl) e20
                          have p68 := slot_norm q68
                          have hg := slot_at (t := 67) 19 ha (by kernel_rfl) (by kernel_rfl) (by kernel_rfl) e19
                          clear ha hd hst
                          have kk := (hI.cell (p := ⟨og, 3, none⟩) HOB.out).trans K3.out
                          exact StepI.pure (v := .int .i64 x.at_) rfl (wanted_at rfl rfl hg) (by go_simp) ⟨rfl, hI⟩
                        · intro us au w1 k22 hlo hhi ha hd hst hI
                          obtain rfl : k22 = 0 := by omega
                          have e21 := hd 21 _ (by kernel_rfl) rfl
                          have e19 := hd 19 _ (by kernel_rfl) rfl
                          have q69 := slot_at (t := 69) 21 ha (by kernel_rfl) (by kernel_rfl) (by kernel_rfl) e21
                          have p69 := slot_norm q69
                          have hg := slot_at (t := 67) 19 ha (by kernel_rfl) (by kernel_rfl) (by kernel_rfl) e19
                          clear ha hd hst
                          exact StepI.pure (v := .bool false) rfl (wanted_at rfl rfl hg) (by go_simp) ⟨rfl, hI⟩
                        · intro us au w1 k23 hlo hhi ha hd hst hI
                          obtain rfl : k23 = 0 := by omega
                          have e19 := hd 19 _ (by kernel_rfl) rfl
                          have e22 := hd 22 _ (by kernel_rfl) rfl
                          have q67 := slot_at (t := 67) 19 ha (by kernel_rfl) (by kernel_rfl) (by kernel_rfl) e19
                          have p67 := slot_norm q67
                          have q70 := slot_at (t := 70) 22 ha (by kernel_rfl) (by kernel_rfl) (by kernel_rfl) e22
                          have p70 := slot_norm q70
                          clear ha hd hst
                          exact StepI.pure (v := .bool false) rfl rfl (by go_simp) ⟨rfl, hI⟩
                        · intro us au w1 k24 hlo hhi ha hd hst hI
                          obtain rfl : k24 = 0 := by omega
                          have e23 := hd 23 _ (by kernel_rfl) rfl
                          have q71 := slot_at (t := 71) 23 ha (by kernel_rfl) (by kernel_rfl) (by kernel_rfl) e23
                          have p71 := slot_norm q71
                          clear ha hd hst
                          exact StepI.pure (v := .bool false) rfl rfl (by go_simp) ⟨rfl, hI⟩
                        · intro us au w1 k25 hlo hhi ha hd hst hI
                          obtain rfl : k25 = 0 := by omega
                          have e24 := hd 24 _ (by kernel_rfl) rfl
                          have q13 := slot_far (t := 13) (v := .pointer (some ⟨og, 0, none⟩)) ha (by kernel_rfl) (by kernel_rfl)
                          have p13 := slot_norm q13
                          have hg := slot_at (t := 72) 24 ha (by kernel_rfl) (by kernel_rfl) (by kernel_rfl) e24
                          clear ha hd hst
                          exact StepI.pure (v := .pointer (some ⟨og, 3, none⟩)) rfl (wanted_at rfl rfl hg) (by go_simp) ⟨rfl, hI⟩
                        · intro us au w1 k26 hlo hhi ha hd hst hI
                          obtain rfl : k26 = 0 := by omega
                          have e25 := hd 25 _ (by kernel_rfl) rfl
                          have e24 := hd 24 _ (by kernel_rfl) rfl
                          have q73 := slot_at (t := 73) 25 ha (by kernel_rfl) (by kernel_rfl) (by kernel_rfl) e25
                          have p73 := slot_norm q73
                          have hg := slot_at (t := 72) 24 ha (by kernel_rfl) (by kernel_rfl) (by kernel_rfl) e24
                          clear ha hd hst
                          have kk := (hI.cell (p := ⟨og, 3, none⟩) HOB.out).trans K3.out
                          exact StepI.pure (v := .int .i64 x.at_) rfl (wanted_at rfl rfl hg) (by go_simp) ⟨rfl, hI⟩
                        · intro us au w1 k27 hlo hhi ha hd hst hI
                          obtain rfl : k27 = 0 := by omega
                          have e26 := hd 26 _ (by kernel_rfl) rfl
                          have e24 := hd 24 _ (by kernel_rfl) rfl
                          have q74 := slot_at (t := 74) 26 ha (by kernel_rfl) (by kernel_rfl) (by kernel_rfl) e26
                          have p74 := slot_norm q74
                          have hg := slot_at (t := 72) 24 ha (by kernel_rfl) (by kernel_rfl) (by kernel_rfl) e24
                          clear ha hd hst
                          exact StepI.pure (v := .bool false) rfl (wanted_at rfl rfl hg) (by go_simp) ⟨rfl, hI⟩
                        · intro us au w1 k28 hlo hhi ha hd hst hI
                          obtain rfl : k28 = 0 := by omega
                          have e24 := hd 24 _ (by kernel_rfl) rfl
                          have e27 := hd 27 _ (by kernel_rfl) rfl
                          have q72 := slot_at (t := 72) 24 ha (by kernel_rfl) (by kernel_rfl) (by kernel_rfl) e24
                          have p72 := slot_norm q72
                          have q75 := slot_at (t := 75) 27 ha (by kernel_rfl) (by kernel_rfl) (by kernel_rfl) e27
                          have p75 := slot_norm q75
                          clear ha hd hst
                          exact StepI.pure (v := .bool false) rfl rfl (by go_simp) ⟨rfl, hI⟩
                      case done =>
                        intro us w1 hI hd
                        have e76 := hd 28 _ (by decide) rfl
                        have HBQ := Lib.hid hI
                        clear hd hI
                        simp only [putAll]
                        go_simp
                        go_wp2
                        go_meet
                        exact ⟨⟨_, rfl, by rw [HBD.out, HOX.out, HSM.out, HS1.out, decide_eq_true (by omega : x.at_ ≤ 4611686018427387904), decide_eq_true (by omega : 0 ≤ x.at_)]; rfl⟩, HBQ.out⟩
          case rest =>
            obtain ⟨⟨bb, rfl, hbb⟩, hwc⟩ := hcut
            have HB7 := Lib.hid (HB6.out.below hwc)
            have HC7 := Lib.hid (HC6.out.below hwc HC6.out.blk)
            have HO7 := Lib.hid (HO6.out.chg (Chg.of_below (S := fun _ => False) hwc) (fun _ _ h => h))
            have HI7 := Lib.hid (HIi.out.below hwc)
            have HCO7 := Lib.hid (HCO.out.below hwc HCO.out.blk)
            clear hwc HB6 HC6 HO6 HIi HCO K2 K3 HOB
            cases bb
            case true =>
              go_wp2
              exact (HQ.out _ _).2 ⟨HB7.out.low, (fun _ => rfl), fun h => absurd ((HOK.out.1 h) k (by rw [HSL.out]; exact hlt)) (by rw [← hbb]; decide)⟩
            case false =>
              have hbf : badAt S k = false := hbb.symm
              have hoks : okO x = true := by
                have := badAt_some HX.out
                rw [hbf] at this
                simp only [Bool.false_eq, Bool.or_eq_false_iff, Bool.not_eq_false'] at this
                exact this.2
              obtain ⟨_, hul, hat0, hat1⟩ := okO_uid hoks
              obtain ⟨q, hq⟩ : ∃ q : Nat, hd0 x = (q : Int) := ⟨(hd0 x).toNat, by have := hd0_ok hul; omega⟩
              have hq2 : q < 256 := by have := hd0_ok hul; omega
              have hT : S.take (k + 1) = S.take k ++ [x] := by rw [List.take_add_one, HX.out]; rfl
              have HGD2 : Hid (∀ i, i < k + 1 → badAt S i = false) := Lib.hid (fun i hi => by
                by_cases h : i = k
                · rw [h]; exact hbf
                · exact HGD.out i (by omega))
              have HN1 : Hid (namesL (S.take (k + 1)) = namesL (S.take k) ++ uid x) := Lib.hid (by rw [hT, namesL_snoc])
              have HN2 : Hid (crcsL (S.take (k + 1)) = crcsL (S.take k) ++ beI x.crc) := Lib.hid (by rw [hT, crcsL_snoc])
              have HN3 : Hid (placesL 0 (S.take (k + 1)) = placesL 0 (S.take k) ++ placeV x (nfar (S.take k))) := Lib.hid (by rw [hT, placesL_snoc, Nat.zero_add])
              have HN4 : Hid (farL (S.take (k + 1)) = farL (S.take k) ++ farV x) := Lib.hid (by rw [hT, farL_snoc])
              have hTl : (S.take k).length = k := by rw [List.length_take, HSL.out]; omega
              have hTu : ∀ y ∈ S.take k, (uid y).length = 20 := fun y hy => by
                obtain ⟨i, hi, rfl⟩ := List.getElem_of_mem hy
                have hi2 : i < k := by rw [hTl] at hi; exact hi
                have h1 := HGD.out i hi2
                have hy2 : S[i]? = some (S.take k)[i] := by rw [List.getElem_take, List.getElem?_eq_getElem]
                rw [badAt_some hy2] at h1
                simp only [Bool.or_eq_false_iff, Bool.not_eq_false'] at h1
                exact (okO_uid h1.2).2.1
              have hln : (namesL (S.take k)).length = 20 * k := by rw [namesL_len _ hTu, hTl]
              have hlc : (crcsL (S.take k)).length = 4 * k := by rw [crcsL_len, hTl]
              have hlp : (placesL 0 (S.take k)).length = 4 * k := by rw [placesL_len, hTl]
              have hlf : (farL (S.take k)).length = 8 * nfar (S.take k) := farL_len _
              have hnf : nfar (S.take k) ≤ k := by have := nfar_le (S.take k); rw [hTl] at this; exact this
              have HCE : Hid (∀ j, cntF (S.take (k + 1)) j = if j = q then .int .i64 (((cntEq (S.take k) (q : Int) : Nat) : Int) + 1) else cntF (S.take k) j) := Lib.hid (fun j => by
                unfold cntF
                rw [hT, cntEq_snoc, hq]
                by_cases h : j = q
                · subst h; rw [if_pos rfl, if_pos rfl, Int.natCast_add]; rfl
                · rw [if_neg h, if_neg (by omega)]; rfl)
              have hcq : cntEq (S.take k) (q : Int) ≤ k := by have := List.length_filter_le (fun x => decide (hd0 x = (q : Int))) (S.take k); rw [hTl] at this; exact this
              have hc7 : wc.cell? ⟨cg, q, none⟩ = some (.int .i64 ((cntEq (S.take k) (q : Int) : Nat) : Int)) := HC7.out.cell q hq2
              have hf7 := HC7.out.frozen q
              have hCS := HC7.out.set q (.int .i64 (((cntEq (S.take k) (q : Int) : Nat) : Int) + 1))
              have hC8 := hCS.congr (fun j _ => (HCE.out j).symm)
              have hcg2 : W.heap.size ≤ cg := hgw
              have hB8 := HB7.out.setCel HC7.out (by decide) hcg2 q (.int .i64 (((cntEq (S.take k) (q : Int) : Nat) : Int) + 1))
              have hO8 := HO7.out.setFar (a := ⟨cg, q, none⟩) (HO7.out.ne_cel HC7.out (by decide)) (.int .i64 (((cntEq (S.take k) (q : Int) : Nat) : Int) + 1))
              have huv : unV (bytesOf x.id) = uid x := rfl
              have hI7 := HI7.out
              obtain ⟨bi, oi, rfl, hbi, hci⟩ := hI7 (by rw [huv, hul]; decide)
              have hI7 := HI7.out
              have hbc : bi ≠ cg := hI7.ne_cel (by rw [huv, hul]; decide) HC7.out (fun i => ⟨_, rfl⟩)
              have hI8 := hI7.chg (S := fun k => k = cg) ((Chg.refl (fun k => k = cg) wc).setCell (a := ⟨cg, q, none⟩) (.inl rfl) (.int .i64 (((cntEq (S.take k) (q : Int) : Nat) : Int) + 1))) (fun b o hA hS => by
                injection hA with hA
                injection hA with h1 _
                subst h1
                exact hbc hS)
              have c0 : wc.cell? ⟨bi, oi, none⟩ = some (.int .u8 (q : Int)) := by
                have := hci 0 (by rw [huv, hul]; decide)
                rw [huv] at this
                rw [Nat.add_zero] at this
                rw [this]
                unfold hd0 at hq
                rw [hq]
              have hCO8 := HCO7.out.setFar (a := ⟨cg, q, none⟩) (fun h => by
                have h : og = cg := h
                have h1 := HC7.out
                rw [← h] at h1
                obtain ⟨cs, hh, _⟩ := h1
                obtain ⟨cs', hh', _⟩ := HCO7.out
                rw [hh] at hh'
                injection hh' with hh'
                injection hh' with _ h2 _
                exact absurd h2 (by decide)) (.int .i64 (((cntEq (S.take k) (q : Int) : Nat) : Int) + 1))
              have HUL := Lib.hid hul
              rw [huv] at hI8 ⊢
              rw [hul]
              have HK8 : Hid (KB W cg (some ⟨g, off, none⟩) N c1 S (cntF (S.take (k + 1))) og x (wc.setCell ⟨cg, q, none⟩ (.int .i64 (((cntEq (S.take k) (q : Int) : Nat) : Int) + 1)))) := Lib.hid ⟨hC8, hO8, hCO8⟩
              have HB8 := Lib.hid hB8
              have HUX := Lib.hid hI8
              have HPV : Hid (placeV x (nfar (S.take k)) = if x.at_ < 2147483648 then beI x.at_ else beI (2147483648 + (nfar (S.take k) : Int))) := Lib.hid rfl
              have HFV : Hid (farV x = if x.at_ < 2147483648 then [] else beI (x.at_ / 4294967296) ++ beI x.at_) := Lib.hid rfl
              generalize uid x = UX at *
              generalize nfar (S.take k) = nf at *
              generalize cntEq (S.take k) (q : Int) = cq at *
              generalize namesL (S.take k) = xn at *
              generalize crcsL (S.take k) = xc at *
              generalize placesL 0 (S.take k) = xp at *
              generalize farL (S.take k) = xf at *
              clear HI7 HC7 HO7 HCO7 HB7 hci hbi hI7 hbc hI8 hC8 hO8 hCO8 hB8 hCS hTu hTl hT hq hul huv HCE hoks hbf hbb hcg2
              have s1 : IntKind.i64.wrap ((cq : Int) + 1) = (cq : Int) + 1 := IntWalk.i64_in _ (by omega)
              have q1 : (q : Int) < 256 := by omega
              have HM1 : Hid (xn.length + 20 ≤ maxLen) := Lib.hid (by unfold maxLen; omega)
              have HM2 : Hid ((xn.length + 20) * 1 ≤ 140737488355328) := Lib.hid (by omega)
              have HM3 : Hid (xc.length ≤ 140737488355000) := Lib.hid (by omega)
              have HM4 : Hid (xf.length ≤ 140737488355000) := Lib.hid (by omega)
              have HM6 : Hid (xp.length ≤ 140737488355000) := Lib.hid (by omega)
              have HLF : Hid (xf.length = 8 * nf ∧ nf ≤ k) := Lib.hid ⟨hlf, hnf⟩
              have HAT : Hid (0 ≤ x.at_ ∧ x.at_ ≤ 4611686018427387904) := Lib.hid ⟨hat0, hat1⟩
              clear hln hlc hlp hlf hnf hcq hat0 hat1
              obtain ⟨i0, hi, hz0, hz1, hz2⟩ := info_parts Try.info_u8
              go_upto_region 15 with (fail)
              generalize wc.setCell ⟨cg, q, none⟩ (.int .i64 ((cq : Int) + 1)) = w8 at *
              clear c0 hc7 hf7 s1
              refine wp_region_ph (by kernel_rfl) [2, 7, 8, 9] [.span 0 0, .span 0 0, .phase 0, .span 0 1, .span 0 1, .span 0 1, .span 0 1, .phase 1, .phase 2, .phase 3] [fun z9 => z9 = vn, fun z9 => z9 = .slice (some ⟨bi, oi, none⟩) 20 ci, fun _ => True, fun z9 => z9 = vc, fun z9 => z9 = .pointer (some ⟨og, 4, none⟩), fun z9 => z9 = .int .u32 x.crc, fun z9 => z9 = .int .i64 (x.crc : Int), fun _ => True, fun _ => True, fun _ => True] (IApp2 W (KB W cg (some ⟨g, off, none⟩) N c1 S (cntF (S.take (k + 1))) og x) [(vb, beginL), (vn, xn), (vc, xc), (vp, xp), (vf, xf)] 1 2 (xn ++ UX) (xc ++ beI x.crc) w8.drew) (by kernel_rfl) (by kernel_rfl) (by kernel_rfl) (by kernel_rfl) (by kernel_rfl) (by kernel_rfl) rfl rfl ((show w8.drew = w8.drew from rfl)) ?steps ?done
              case steps =>
                refine ⟨?_, ?_, ?_, ?_, ?_, ?_, ?_, ?_, ?_, ?_, trivial⟩
                · intro us au w1 k0 hlo hhi ha hd hst hI
                  obtain rfl : k0 = 0 := by omega
                  have q7 := slot_start (t := 7) (v := vn) 8 ha (hst 8 (by decide) (by kernel_rfl)) (by kernel_rfl) (by kernel_rfl) (by kernel_rfl) (by kernel_rfl)
                  have p7 := slot_norm q7
                  clear ha hd hst
                  exact StepI.pure (v := vn) rfl rfl (by go_simp) ⟨rfl, hI⟩
                · intro us au w1 k1 hlo hhi ha hd hst hI
                  obtain rfl : k1 = 0 := by omega
                  have q14 := slot_far (t := 14) (v := .slice (some ⟨bi, oi, none⟩) 20 ci) ha (by kernel_rfl) (by kernel_rfl)
                  have p14 := slot_norm q14
                  clear ha hd hst
                  exact StepI.pure (v := .slice (some ⟨bi, oi, none⟩) 20 ci) rfl rfl (by go_simp) ⟨rfl, hI⟩
                · intro us au w1 ha hd hst hI
                  have e0 := hd 0 _ (by kernel_rfl) rfl
                  have e1 := hd 1 _ (by kernel_rfl) rfl
                  have q84 := slot_at (t := 84) 0 ha (by kernel_rfl) (by kernel_rfl) (by kernel_rfl) e0
                  have p84 := slot_norm q84
                  have q85 := slot_at (t := 85) 1 ha (by kernel_rfl) (by kernel_rfl) (by kernel_rfl) e1
                  have p85 := slot_norm q85
                  clear ha hd hst
                  have hw9 : w1 = w8.drew := hI
                  subst hw9
                  have hB9 := HB8.out.drew
                  have hK9 := HK8.out.drew
                  have hs9 := (Src.ints (P := Try.prog) (c := ci) HUX.out).drew
                  refine StepI.wp rfl rfl (fun K hK => ?_)
                  refine wp_append_S (.tmp 84) (.tmp 85) 24 24 rfl i0 _ 1 (.slice 5) Try.underlying24 Try.underlying24 (fun _ h => by cases h) hi hz0 hz1 hz2 rfl q84 q85 (hB9.get 1 rfl) (by rw [HUL.out] at hs9; exact hs9) HM1.out HM2.out hB9.low.size ?_
                  intro A9 c9 w9 ho9 hg9 hw9
                  rw [← List.map_append, ← HUL.out, ← List.length_append] at ho9
                  rw [← HUL.out, ← List.length_append] at hw9
                  rw [← HUL.out, ← List.length_append]
                  exact hK _ _ ⟨trivial, hK9.grown hB9 1 rfl hg9, ⟨_, _, rfl⟩, hB9.grown 1 rfl hg9 ho9 (hw9.imp id fun h => ⟨_, h, Nat.le_refl _⟩)⟩
                · intro us au w1 k3 hlo hhi ha hd hst hI
                  have q8 := slot_start (t := 8) (v := vc) 9 ha (hst 9 (by decide) (by kernel_rfl)) (by kernel_rfl) (by kernel_rfl) (by kernel_rfl) (by kernel_rfl)
                  have p8 := slot_norm q8
                  clear ha hd hst
                  exact StepI.pure (v := vc) rfl rfl (by go_simp) ⟨rfl, hI⟩
                · intro us au w1 k4 hlo hhi ha hd hst hI
                  have q13 := slot_far (t := 13) (v := .pointer (some ⟨og, 0, none⟩)) ha (by kernel_rfl) (by kernel_rfl)
                  have p13 := slot_norm q13
                  clear ha hd hst
                  exact StepI.pure (v := .pointer (some ⟨og, 4, none⟩)) rfl rfl (by go_simp) ⟨rfl, hI⟩
                · intro us au w1 k5 hlo hhi ha hd hst hI
                  have e4 := hd 4 _ (by kernel_rfl) rfl
                  have q88 := slot_at (t := 88) 4 ha (by kernel_rfl) (by kernel_rfl) (by kernel_rfl) e4
                  have p88 := slot_norm q88
                  clear ha hd hst
                  have kk : w1.cell? ⟨og, 4, none⟩ = some (.int .u32 x.crc) := by
                    have hoo : Cel w1 og 30 5 (elF x) := by
                      rcases (show k5 = 0 ∨ k5 = 1 by omega) with rfl | rfl
                      · rw [show w1 = w8.drew from hI]; exact HK8.out.obj.drew
                      · exact hI.1.obj
                    exact hoo.cell 4 (by decide)
                  exact StepI.pure (v := .int .u32 x.crc) rfl rfl (by go_simp) ⟨rfl, hI⟩
                · intro us au w1 k6 hlo hhi ha hd hst hI
                  have e5 := hd 5 _ (by kernel_rfl) rfl
                  have q89 := slot_at (t := 89) 5 ha (by kernel_rfl) (by kernel_rfl) (by kernel_rfl) e5
                  have p89 := slot_norm q89
                  clear ha hd hst
                  exact StepI.pure (v := .int .i64 (x.crc : Int)) rfl rfl (by go_simp; exact IntWalk.i64_in _ (by have := HCRC.out; omega)) ⟨rfl, hI⟩
                · intro us au w1 ha hd hst hI
                  have e3 := hd 3 _ (by kernel_rfl) rfl
                  have e6 := hd 6 _ (by kernel_rfl) rfl
                  have q87 := slot_at (t := 87) 3 ha (by kernel_rfl) (by kernel_rfl) (by kernel_rfl) e3
                  have p87 := slot_norm q87
                  have q90 := slot_at (t := 90) 6 ha (by kernel_rfl) (by kernel_rfl) (by kernel_rfl) e6
                  have p90 := slot_norm q90
                  clear ha hd hst
                  obtain ⟨hK9, hv9, hB9⟩ := hI
                  refine StepI.call (f := 26) (args := #[vc, .int .i64 x.crc]) rfl rfl (by go_simp) ?_
                  refine (ifour_any vc xc.length _ _ x.crc w1 (hB9.get 2 rfl) HCRC.out.1 (by have := HCRC.out.2; omega) HM3.out hB9.low.size).mono ?_
                  intro e w5 ha5
                  obtain ⟨A9, c9, he9, hB5, hg5⟩ := hB9.app 2 rfl ha5
                  exact ⟨_, he9, trivial, hK9.grown hB9 2 rfl hg5, hv9, ⟨_, _, rfl⟩, hB5⟩
                · intro us au w1 ha hd hst hI
                  obtain ⟨_⟩ := hd 2 _ (by kernel_rfl) rfl
                  have q86 := slot_at (t := 86) 2 ha (by kernel_rfl) (by kernel_rfl) (by kernel_rfl) (Eq.refl (us 2))
                  have p86 := slot_norm q86
                  clear ha hd hst
                  exact StepI.pure (v := us 2) rfl rfl (by go_simp) ⟨trivial, hI, rfl⟩
                · intro us au w1 ha hd hst hI
                  obtain ⟨_⟩ := hd 7 _ (by kernel_rfl) rfl
                  have q91 := slot_at (t := 91) 7 ha (by kernel_rfl) (by kernel_rfl) (by kernel_rfl) (Eq.refl (us 7))
                  have p91 := slot_norm q91
                  clear ha hd hst
                  exact StepI.pure (v := us 7) rfl rfl (by go_simp) ⟨trivial, hI.1, hI.2, rfl⟩
              case done =>
                intro us w1 hI hd
                obtain ⟨⟨hK1, ⟨A2, c2, e2⟩, ⟨A7, c7, e7⟩, hB1⟩, e8, e9⟩ := hI
                rw [e2] at e8
                rw [e7] at e9
                rw [e2, e7] at hB1
                have HB9 : Hid (Bufs W w1 [(vb, beginL), (.slice A2 (xn ++ UX).length c2, xn ++ UX), (.slice A7 (xc ++ beI x.crc).length c7, xc ++ beI x.crc), (vp, xp), (vf, xf)]) := Lib.hid hB1
                have HK9 := Lib.hid hK1
                clear hd hB1 hK1 HB8 HK8 HUX HM1 HM2 HM3 HCRC
                simp only [putAll]
                go_simp
                clear e2 e7 e8 e9
                have c3 : w1.cell? ⟨og, 3, none⟩ = some (.int .i64 x.at_) := HK9.out.obj.cell 3 (by decide)
                by_cases hfar : x.at_ < 2147483648
                · have d6 : decide (x.at_ < 2147483648) = true := decide_eq_true hfar
                  rw [if_pos hfar] at HPV HFV
                  have HFOUR := Lib.hid (ifour_any vp xp.length _ _ x.at_ w1 (HB9.out.get 3 rfl) HAT.out.1 (by have := HAT.out.2; omega) HM6.out HB9.out.low.size)
                  go_wp2_with (go_at_call 26; refine HFOUR.out.mono ?_; intro e w5 ha5; obtain ⟨A9, c9, rfl, hB5, hg5⟩ := HB9.out.app 3 rfl ha5)
                  go_roundw
                  case rel =>
                    refine ⟨k + 1, _, _, _, _, by go_num, rfl, rfl, rfl, rfl, by omega, HGD2.out, ?_, (HK9.out.grown HB9.out 3 rfl hg5).cnt, (HK9.out.grown HB9.out 3 rfl hg5).row⟩
                    rw [HN1.out, HN2.out, HN3.out, HN4.out, HPV.out, HFV.out, List.append_nil]
                    have h := hB5
                    simp only [List.length_append] at h ⊢
                    exact h
                  case measure => simp [intOf]; omega
                · have d6 : decide (x.at_ < 2147483648) = false := decide_eq_false hfar
                  rw [if_neg hfar] at HPV HFV
                  obtain ⟨Af, cf, rfl⟩ := (HB9.out.get 4 rfl).shape
                  have s6 : IntKind.i64.wrap ((xf.length : Int) / 8) = (nf : Int) := by rw [IntWalk.i64_in _ (by have := HLF.out; omega)]; have := HLF.out; omega
                  have s7 : bits .or .i64 2147483648 (nf : Int) = 2147483648 + (nf : Int) := i64_or_add 1 (nf : Int) 31 (by omega) (by omega) (by have := HLF.out; omega) (by have := HLF.out; omega)
                  have HFOUR := Lib.hid (ifour_any vp xp.length _ _ (2147483648 + (nf : Int)) w1 (HB9.out.get 3 rfl) (by omega) (by have := HLF.out; omega) HM6.out HB9.out.low.size)
                  go_upto_region 19 with (go_at_call 26; refine HFOUR.out.mono ?_; intro e w5 ha5; obtain ⟨A9, c9, rfl, hB5, hg5⟩ := HB9.out.app 3 rfl ha5)
                  obtain ⟨w8, hw8⟩ : ∃ w8, w8 = w5 := ⟨_, rfl⟩
                  obtain ⟨LL, hLL⟩ : ∃ LL, LL = [(vb, beginL), (.slice A2 (xn ++ UX).length c2, xn ++ UX), (.slice A7 (xc ++ beI x.crc).length c7, xc ++ beI x.crc), (.slice A9 (xp ++ beI (2147483648 + (nf : Int))).length c9, xp ++ beI (2147483648 + (nf : Int))), (.slice Af xf.length cf, xf)] := ⟨_, rfl⟩
                  have HLL := Lib.hid hLL
                  have HL4 : Hid (LL[4]? = some (.slice Af xf.length cf, xf)) := Lib.hid (by rw [hLL]; rfl)
                  have HL4b : Hid (∀ r, (LL.set 4 r)[4]? = some r) := Lib.hid (fun r => by rw [hLL]; rfl)
                  have hB8 : Bufs W w5 LL := by rw [hLL]; exact hB5
                  have HK8 := Lib.hid (HK9.out.grown HB9.out 3 rfl hg5)
                  have HB8 := Lib.hid hB8
                  have HM5 : Hid ((xf ++ beI (x.at_ / 4294967296)).length ≤ 140737488355000) := Lib.hid (by rw [List.length_append, beI_len]; have := HLF.out; omega)
                  have HHI : Hid (0 ≤ x.at_ / 4294967296 ∧ x.at_ / 4294967296 < 9223372036854775808) := Lib.hid (by have := HAT.out; omega)
                  clear hLL hB8 hB5 hg5 HB9 HK9 HFOUR s6 s7 c3
                  rw [← hw8] at HK8 HB8 ⊢
                  clear hw8
                  refine wp_region_ph (by kernel_rfl) [4, 7, 8] [.span 0 0, .span 0 0, .span 0 0, .span 0 0, .phase 0, .span 0 1, .span 0 1, .phase 1, .phase 2] [fun z9 => z9 = .slice Af xf.length cf, fun z9 => z9 = .pointer (some ⟨og, 3, none⟩), fun z9 => z9 = .int .i64 x.at_, fun z9 => z9 = .int .i64 ((x.at_ / 4294967296) : Int), fun _ => True, fun z9 => z9 = .pointer (some ⟨og, 3, none⟩), fun z9 => z9 = .int .i64 x.at_, fun _ => True, fun _ => True] (IApp3 W (KB W cg (some ⟨g, off, none⟩) N c1 S (cntF (S.take (k + 1))) og x) LL 4 (xf ++ beI (x.at_ / 4294967296)) (xf ++ beI (x.at_ / 4294967296) ++ beI x.at_) w8.drew) (by kernel_rfl) (by kernel_rfl) (by kernel_rfl) (by kernel_rfl) (by kernel_rfl) (by kernel_rfl) rfl rfl ((show w8.drew = w8.drew from rfl)) ?steps ?done
                  case steps =>
                    refine ⟨?_, ?_, ?_, ?_, ?_, ?_, ?_, ?_, ?_, trivial⟩
                    · intro us au w1 k0 hlo hhi ha hd hst hI
                      obtain rfl : k0 = 0 := by omega
                      have q10 := slot_start (t := 10) (v := .slice Af xf.length cf) 8 ha (hst 8 (by decide) (by kernel_rfl)) (by kernel_rfl) (by kernel_rfl) (by kernel_rfl) (by kernel_rfl)
                      have p10 := slot_norm q10
                      clear ha hd hst
                      exact StepI.pure (v := .slice Af xf.length cf) rfl rfl (by go_simp) ⟨rfl, hI⟩
                    · intro us au w1 k1 hlo hhi ha hd hst hI
                      obtain rfl : k1 = 0 := by omega
                      have q13 := slot_far (t := 13) (v := .pointer (some ⟨og, 0, none⟩)) ha (by kernel_rfl) (by kernel_rfl)
                      have p13 := slot_norm q13
                      clear ha hd hst
                      exact StepI.pure (v := .pointer (some ⟨og, 3, none⟩)) rfl rfl (by go_simp) ⟨rfl, hI⟩
                    · intro us au w1 k2 hlo hhi ha hd hst hI
                      obtain rfl : k2 = 0 := by omega
                      have e1 := hd 1 _ (by kernel_rfl) rfl
                      have q106 := slot_at (t := 106) 1 ha (by kernel_rfl) (by kernel_rfl) (by kernel_rfl) e1
                      have p106 := slot_norm q106
                      clear ha hd hst
                      have kk : w1.cell? ⟨og, 3, none⟩ = some (.int .i64 x.at_) := by
                        rw [show w1 = w8.drew from hI]
                        exact HK8.out.obj.drew.cell 3 (by decide)
                      exact StepI.pure (v := .int .i64 x.at_) rfl rfl (by go_simp) ⟨rfl, hI⟩
                    · intro us au w1 k3 hlo hhi ha hd hst hI
                      obtain rfl : k3 = 0 := by omega
                      have e2 := hd 2 _ (by kernel_rfl) rfl
                      have q107 := slot_at (t := 107) 2 ha (by kernel_rfl) (by kernel_rfl) (by kernel_rfl) e2
                      have p107 := slot_norm q107
                      clear ha hd hst
                      exact StepI.pure (v := .int .i64 ((x.at_ / 4294967296) : Int)) rfl rfl (by go_simp) ⟨rfl, hI⟩
                    · intro us au w1 ha hd hst hI
                      have e0 := hd 0 _ (by kernel_rfl) rfl
                      have e3 := hd 3 _ (by kernel_rfl) rfl
                      have q105 := slot_at (t := 105) 0 ha (by kernel_rfl) (by kernel_rfl) (by kernel_rfl) e0
                      have p105 := slot_norm q105
                      have q108 := slot_at (t := 108) 3 ha (by kernel_rfl) (by kernel_rfl) (by kernel_rfl) e3
                      have p108 := slot_norm q108
                      clear ha hd hst
                      have hw9 : w1 = w8.drew := hI
                      subst hw9
                      have hB9 := HB8.out.drew
                      have hK9 := HK8.out.drew
                      refine StepI.call (f := 26) (args := #[.slice Af xf.length cf, .int .i64 (x.at_ / 4294967296)]) rfl rfl (by go_simp) ?_
                      refine (ifour_any (.slice Af xf.length cf) xf.length _ _ (x.at_ / 4294967296) w8.drew (hB9.get 4 HL4.out) HHI.out.1 HHI.out.2 HM4.out hB9.low.size).mono ?_
                      intro e w5 ha5
                      obtain ⟨A9, c9, he9, hB5, hg5⟩ := hB9.app 4 HL4.out ha5
                      exact ⟨_, he9, trivial, hK9.grown hB9 4 HL4.out hg5, ⟨_, _, rfl⟩, hB5⟩
                    · intro us au w1 k5 hlo hhi ha hd hst hI
                      have q13 := slot_far (t := 13) (v := .pointer (some ⟨og, 0, none⟩)) ha (by kernel_rfl) (by kernel_rfl)
                      have p13 := slot_norm q13
                      clear ha hd hst
                      exact StepI.pure (v := .pointer (some ⟨og, 3, none⟩)) rfl rfl (by go_simp) ⟨rfl, hI⟩
                    · intro us au w1 k6 hlo hhi ha hd hst hI
                      have e5 := hd 5 _ (by kernel_rfl) rfl
                      have q110 := slot_at (t := 110) 5 ha (by kernel_rfl) (by kernel_rfl) (by kernel_rfl) e5
                      have p110 := slot_norm q110
                      clear ha hd hst
                      have kk : w1.cell? ⟨og, 3, none⟩ = some (.int .i64 x.at_) := by
                        have hoo : Cel w1 og 30 5 (elF x) := by
                          rcases (show k6 = 0 ∨ k6 = 1 by omega) with rfl | rfl
                          · rw [show w1 = w8.drew from hI]; exact HK8.out.obj.drew
                          · exact hI.1.obj
                        exact hoo.cell 3 (by decide)
                      exact StepI.pure (v := .int .i64 x.at_) rfl rfl (by go_simp) ⟨rfl, hI⟩
                    · intro us au w1 ha hd hst hI
                      obtain ⟨_⟩ := hd 4 _ (by kernel_rfl) rfl
                      have e6 := hd 6 _ (by kernel_rfl) rfl
                      have q109 := slot_at (t := 109) 4 ha (by kernel_rfl) (by kernel_rfl) (by kernel_rfl) (Eq.refl (us 4))
                      have p109 := slot_norm q109
                      have q111 := slot_at (t := 111) 6 ha (by kernel_rfl) (by kernel_rfl) (by kernel_rfl) e6
                      have p111 := slot_norm q111
                      clear ha hd hst
                      obtain ⟨hK9, ⟨A8, c8, hv9⟩, hB9⟩ := hI
                      refine StepI.call (f := 26) (args := #[us 4, .int .i64 x.at_]) rfl rfl (by go_simp) ?_
                      refine (ifour_any (us 4) (xf ++ beI (x.at_ / 4294967296)).length _ _ x.at_ w1 (hB9.get 4 (HL4b.out _)) HAT.out.1 (by have := HAT.out.2; omega) HM5.out hB9.low.size).mono ?_
                      intro e w5 ha5
                      obtain ⟨A9, c9, he9, hB5, hg5⟩ := hB9.app 4 (HL4b.out _) ha5
                      exact ⟨_, he9, trivial, hK9.grown hB9 4 (HL4b.out _) hg5, ⟨_, _, hv9⟩, ⟨_, _, rfl⟩, hB5⟩
                    · intro us au w1 ha hd hst hI
                      obtain ⟨_⟩ := hd 7 _ (by kernel_rfl) rfl
                      have q112 := slot_at (t := 112) 7 ha (by kernel_rfl) (by kernel_rfl) (by kernel_rfl) (Eq.refl (us 7))
                      have p112 := slot_norm q112
                      clear ha hd hst
                      exact StepI.pure (v := us 7) rfl rfl (by go_simp) ⟨trivial, hI, rfl⟩
                  case done =>
                    intro us w1 hI hd
                    obtain ⟨⟨hK1, ⟨A4, c4, e4⟩, ⟨A10, c10, e7⟩, hB1⟩, e8⟩ := hI
                    rw [e7] at e8
                    rw [e4, e7, HLL.out] at hB1
                    have HB9 : Hid (Bufs W w1 [(vb, beginL), (.slice A2 (xn ++ UX).length c2, xn ++ UX), (.slice A7 (xc ++ beI x.crc).length c7, xc ++ beI x.crc), (.slice A9 (xp ++ beI (2147483648 + (nf : Int))).length c9, xp ++ beI (2147483648 + (nf : Int))), (.slice A10 (xf ++ beI (x.at_ / 4294967296) ++ beI x.at_).length c10, xf ++ beI (x.at_ / 4294967296) ++ beI x.at_)]) := Lib.hid hB1
                    have HK9 := Lib.hid hK1
                    clear hd hB1 hK1 HB8 HK8 HL4 HL4b HLL
                    simp only [putAll]
                    go_simp
                    clear e4 e7 e8
                    go_wp2
                    go_roundw
                    case rel =>
                      refine ⟨k + 1, _, _, _, _, by go_num, rfl, rfl, rfl, rfl, by omega, HGD2.out, ?_, HK9.out.cnt, HK9.out.row⟩
                      rw [HN1.out, HN2.out, HN3.out, HN4.out, HPV.out, HFV.out, ← List.append_assoc]
                      have h := HB9.out
                      simp only [List.length_append] at h ⊢
                      simp only [List.length_append, Nat.add_assoc] at h ⊢
                      exact h
                    case measure => simp [intOf]; omega
        case neg =>
          have hkN : k = N := by omega
          have hTS : S.take k = S := List.take_of_length_le (by rw [HSL.out]; omega)
          have HGS : Hid OK := Lib.hid (HOK.out.2 (fun i hi => hgood i (by rw [HSL.out] at hi; omega)))
          rw [hTS] at hB hC
          have d2 : decide ((k : Int) < (N : Int)) = false := decide_eq_false (by omega)
          have d2' : decide (k < N) = false := decide_eq_false (by omega)
          have HSU : Hid (∀ y ∈ S, (uid y).length = 20) := Lib.hid (fun y hy => by
            have := GoodS.all (HOK.out.1 HGS.out) hy
            exact (okO_uid this).2.1)
          have HB := Lib.hid hB
          have HCC := Lib.hid hC
          have hz := cntA_info S
          have hAa := cntA_at S
          have hAs := cntA_size S
          clear hgood hO hB hTS HSC
          go_upto_region 23 with (refine wpList_load_part (vs := cntA S) (off := 0) rfl (.tmp 11) rfl rfl hC Try.underlying58 rfl hz (by rw [hAs]; exact Nat.le_refl _) (fun j hj => by rw [Nat.zero_add]; exact hAa j (by rw [hAs] at hj; exact hj)) ?_)
          have HLN : Hid ((namesL S).length = 20 * N) := Lib.hid (by rw [namesL_len S HSU.out, HSL.out])
          have HLC : Hid ((crcsL S).length = 4 * N) := Lib.hid (by rw [crcsL_len, HSL.out])
          have HLP : Hid ((placesL 0 S).length = 4 * N) := Lib.hid (by rw [placesL_len, HSL.out])
          have HLF : Hid ((farL S).length ≤ 8 * N) := Lib.hid (by rw [farL_len]; have := nfar_le S; rw [HSL.out] at this; omega)
          have HBY : Hid (bodyL S (unV (bytesOf p)) = beginL ++ fanL S 256 ++ namesL S ++ crcsL S ++ placesL 0 S ++ farL S ++ unV (bytesOf p)) := Lib.hid rfl
          generalize namesL S = xn at *
          generalize crcsL S = xc at *
          generalize placesL 0 S = xp at *
          generalize farL S = xf at *
          have HAA := Lib.hid hAa
          have HBL : Hid (∀ c, (beginL ++ fanL S c).length = 8 + 4 * c) := Lib.hid (fun c => by rw [List.length_append, fanL_len]; rfl)
          clear hC hAa hz HSU HCC
          generalize cntA S = AS at *
          obtain ⟨i1, hj, hy0, hy1, hy2⟩ := info_parts Try.info_i64
          have HIX := Lib.hid (fun (w : World) (i : Nat) (v : Value) (h : i < 256) (hv : AS[i]? = some v) => run_index_int (P := Try.prog) w 58 3 256 AS i v i1 Try.underlying58 Try.underlying3 hj hy1 h hv)
          clear hj hy0 hy1 hy2
          go_loopw [115, 16, 6] (fun vi vm vb' wq => ∃ (c : Nat) (vb2 : Value), vi = .int .i64 c ∧ vm = .int .i64 ((cntLt S (c : Int) : Nat) : Int) ∧ vb2 = vb' ∧ c ≤ 256 ∧ Bufs W wq [(vb2, beginL ++ fanL S c), (vn, xn), (vc, xc), (vp, xp), (vf, xf)]) (fun vi _ _ _ => 256 - (intOf vi).toNat)
          case atStart => exact ⟨0, _, rfl, by rw [show ((0 : Nat) : Int) = 0 from rfl, cntLt_zero]; rfl, rfl, Nat.zero_le _, by have := HB.out; simpa [fanL] using this⟩
          case round =>
            clear HB
            obtain ⟨c, vb2, rfl, rfl, rfl, hc256, hB⟩ := hrel
            have hle := cntLt_le S (c : Int)
            rw [HSL.out] at hle
            by_cases hc : c < 256
            · have d3 : decide ((c : Int) < 256) = true := decide_eq_true (by omega)
              have hix : ∀ w, (Instr.index 58 (.agg AS) (.int .i64 (c : Int))).run Try.prog w = .ok (.int .i64 ((cntEq S (c : Int) : Nat) : Int)) w := fun w => HIX.out w c _ hc (HAA.out c hc)
              have hle2 := cntLt_le S ((c : Int) + 1)
              rw [HSL.out] at hle2
              have hsu := cntLt_succ S (c : Int)
              have s1 : IntKind.i64.wrap (((cntLt S (c : Int) : Nat) : Int) + ((cntEq S (c : Int) : Nat) : Int)) = ((cntLt S ((c : Int) + 1) : Nat) : Int) := by rw [IntWalk.i64_in _ (by omega)]; omega
              have HFS : Hid (fanL S (c + 1) = fanL S c ++ beI ((cntLt S ((c : Int) + 1) : Nat) : Int)) := Lib.hid (fanL_succ S c)
              have HCC : Hid (((c + 1 : Nat) : Int) = (c : Int) + 1) := Lib.hid (by omega)
              have hbl := HBL.out c
              have HB := Lib.hid hB
              have s2 : IntKind.i64.wrap ((c : Int) + 1) = ((c + 1 : Nat) : Int) := by rw [IntWalk.i64_in _ (by omega)]; omega
              obtain ⟨m2, hm2⟩ : ∃ m2, cntLt S ((c : Int) + 1) = m2 := ⟨_, rfl⟩
              rw [hm2] at s1 hsu hle2 HFS
              have HM2 := Lib.hid hm2
              clear hm2
              have HFOUR := Lib.hid (ifour_any vb2 (beginL ++ fanL S c).length _ _ (m2 : Int) wr (hB.get 0 rfl) (by omega) (by omega) (by omega) hB.low.size)
              generalize cntLt S (c : Int) = m1 at *
              generalize cntEq S (c : Int) = m3 at *
              clear hsu hbl hB hle hle2
              go_wp2_with (go_at_call 26; refine HFOUR.out.mono ?_; intro e w5 ha5; obtain ⟨A9, c9, rfl, hB5, hg5⟩ := HB.out.app 0 rfl ha5)
              go_roundw
              case rel =>
                refine ⟨c + 1, _, by go_num, by rw [HCC.out, HM2.out], rfl, by omega, ?_⟩
                rw [HFS.out, ← List.append_assoc]
                have h := hB5
                simp only [List.length_append] at h ⊢
                exact h
              case measure => simp [intOf]; omega
            · obtain rfl : c = 256 := by omega
              have d3 : decide (((256 : Nat) : Int) < 256) = false := rfl
              have HB := Lib.hid hB
              have HUP := Lib.hid (unhex_any p wr HP.out)
              clear hB hle
              go_wp2_with fail
              refine HUP.out.mono ?_
              rintro e w5 ⟨Ap, cp, rfl, hIp, hb5⟩
              have HB5W : Hid (W.heap.size ≤ w5.heap.size) := Lib.hid (Nat.le_trans HB.out.low.size hb5.size)
              have hb6 := HB.out.below hb5
              obtain ⟨x0, hx0⟩ : ∃ x0, beginL ++ fanL S 256 = x0 := ⟨_, rfl⟩
              have hl0 := HBL.out 256
              rw [hx0] at hb6 hl0
              obtain ⟨Ab, cb, rfl⟩ := (hb6.get 0 rfl).shape
              obtain ⟨An, cn, rfl⟩ := (hb6.get 1 rfl).shape
              obtain ⟨Ac, cc, rfl⟩ := (hb6.get 2 rfl).shape
              obtain ⟨Al, cl, rfl⟩ := (hb6.get 3 rfl).shape
              obtain ⟨Af, cf, rfl⟩ := (hb6.get 4 rfl).shape
              have i0 := (hb6.get 0 rfl).ints
              have i1 := (hb6.get 1 rfl).ints
              have i2 := (hb6.get 2 rfl).ints
              have i3 := (hb6.get 3 rfl).ints
              have i4 := (hb6.get 4 rfl).ints
              have hpl : (unV (bytesOf p)).length = 20 := by
                have := HPH.out
                simp only [hashB, Bool.and_eq_true, decide_eq_true_eq] at this
                exact this.2
              have hPB : Bytes (unV (bytesOf p)) := unV_ok _
              have hbyo := bodyL_ok S _ hPB
              have HR : Hid (flatR [(Ab, cb, x0), (An, cn, xn), (Ac, cc, xc), (Al, cl, xp), (Af, cf, xf), (Ap, cp, unV (bytesOf p))] = bodyL S (unV (bytesOf p))) := Lib.hid (by
                rw [HBY.out, hx0]
                simp [flatR])
              obtain ⟨bl, hbl⟩ : ∃ bl, bodyL S (unV (bytesOf p)) = bl := ⟨_, rfl⟩
              have HBL2 : Hid (bl.length ≤ 200000) := Lib.hid (by
                have := hlen
                have h1 := HLN.out
                have h2 := HLC.out
                have h3 := HLP.out
                have h4 := HLF.out
                rw [← hbl, HBY.out, hx0]
                simp only [List.length_append]
                omega)
              have HBD : Hid (buildL S (unV (bytesOf p)) = bl ++ shaAll bl) := Lib.hid (by unfold buildL; rw [hbl])
              rw [hbl] at HR hbyo
              have hrc := row_cells w5 24 [(Ab, cb, x0), (An, cn, xn), (Ac, cc, xc), (Al, cl, xp), (Af, cf, xf), (Ap, cp, unV (bytesOf p))] (fun r hr => by
                simp only [List.mem_cons, List.not_mem_nil, or_false] at hr
                rcases hr with rfl | rfl | rfl | rfl | rfl | rfl
                · exact i0
                · exact i1
                · exact i2
                · exact i3
                · exact i4
                · exact hIp)
              have HCAT := Lib.hid (concat_bytes w5.heap.size 0 6 6 bl.length _ _ rfl hrc (by simp) (by rw [HR.out]) (by have := HBL2.out; omega) (by decide))
              have HB6 := Lib.hid hb6.low
              have HBYO := Lib.hid hbyo
              have HPL := Lib.hid hpl
              clear hpl
              generalize unV (bytesOf p) = P at *
              clear i0 i1 i2 i3 i4 hrc hb6 hIp hPB hbyo hx0 hl0 HB HUP hbl
              go_wp2_with (go_at_call 27; refine HCAT.out.mono ?_; rintro e w7 ⟨A7, c7, rfl, ho7, hb7⟩)
              have hlow7 : Below w5.heap.size w5 w7 := ((Below.refl _ _).alloc (Nat.le_refl _) _).trans (hb7.mono (by simp))
              rw [HR.out] at ho7
              have HO7 := Lib.hid ho7
              have HB7 : Hid (Below W.heap.size W w7) := Lib.hid (HB6.out.trans (hlow7.mono HB6.out.size))
              have HSHA := Lib.hid (sha1_any A7 bl.length c7 bl w7 ho7.ints rfl HBYO.out (by have := HBL2.out; omega))
              have HLS := shaAll_len bl
              clear ho7 hb7 hlow7 HCAT HB6
              obtain ⟨i0, hi, hz0, hz1, hz2⟩ := info_parts Try.info_u8
              have hm1 : bl.length + 20 ≤ maxLen := by have := HBL2.out; unfold maxLen; omega
              have hm2 : (bl.length + 20) * 1 ≤ 140737488355328 := by have := HBL2.out; omega
              refine HSHA.out.mono ?_
              rintro e w8 ⟨A8, c8, rfl, ho8, hb8⟩
              have ho7b := (HO7.out.base_ (base' := W.heap.size) (by have := HB7.out.size; have h2 := (HO7.out.lt); simp; have := HB5W.out; omega)).chg (Chg.of_below (S := fun _ => False) hb8) (fun _ _ h => h)
              have hs8 := Src.ints (P := Try.prog) (c := c8) ho8.ints
              rw [HLS] at hs8
              have hB8 := HB7.out.trans (hb8.mono HB7.out.size)
              have hsz8 := hB8.size
              have HB8 := Lib.hid hB8
              clear ho8 hb8 HO7 HB7 HSHA hB8
              go_wp2_with (first
                | (have hm := ho9; go_at_call 28; refine (clip_any A9 (bl.length + 20) c9 w9 hm.cap hm.capMax).mono ?_; rintro e w10 ⟨rfl, rfl⟩)
                | (at_builtin; refine wpList_append_S rfl (.tmp 138) (.tmp 140) 24 24 rfl i0 _ 1 (.slice 5) Try.underlying24 Try.underlying24 (fun _ h => by cases h) hi hz0 hz1 hz2 rfl rfl rfl ho7b hs8 hm1 hm2 hsz8 ?_; intro A9 c9 w9 ho9 hg9 hw9))
              rw [← List.map_append] at ho9
              refine (HQ.out _ _).2 ⟨HB8.out.trans ((Chg.of_grown (S := fun k => (Value.slice A7 bl.length c7).ownBlock = some k) hg9 (fun _ h => h)).below hsz8 (fun k hk hs => by have := (ho7b.lt k hs).1; omega)), (fun h => absurd HGS.out h), fun _ => ⟨A9, ?_, ?_⟩⟩
              · rw [HBD.out, List.length_append, HLS]; rfl
              · rw [HBD.out]; exact ho9.ints
end Go.Proofs.Ytndjebddgnmpfaa
