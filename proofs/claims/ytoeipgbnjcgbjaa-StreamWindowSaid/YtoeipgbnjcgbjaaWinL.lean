/- The walk of StreamWindow. -/
import Derived.Test.YtoeipgbnjcgbjaaWinW
import Derived.Test.YtoeipgbnjcgbjaaTwo
namespace Go.Proofs.Ytoeipgbnjcgbjaa
open Go.RowKit
set_option linter.unusedVariables false

theorem step_make {P : Program} {w : World} {ops : Array Oper} {o : Oper} {a : Act} {K : Act → World → Prop} {Q : Exit → Act → World → Prop} {E : Prop}
    (hwant : Region.wanted o (yielded ops a.tmps) = true) (l c : Operand) (t : TypeId) (hop : o.op = Op.makeSlice t l c)
    (base : Nat) (e : TypeId) (i : TypeInfo) (z : Value) (size : Nat) (h1 : P.underlying t = some (.slice e)) (h2 : P.info? e = some i) (h3 : i.zero = some z) (h4 : i.size = size)
    (kl kc : IntKind) (L C : Int) (n : Nat) (hl : a.eval l = .int kl L) (hc : a.eval c = .int kc C) (hL : L = (n : Int)) (hC : C = (n : Int)) (b2 : i.bytes * n ≤ 281474976710656) (b3 : n ≤ maxLen) (b4 : base ≤ w.heap.size)
    (hK : ∀ w', w'.ownsRow base e size (.slice (some ⟨w.heap.size, 0, none⟩) n n) n (madeCells z.cells (n * size)).toList → w.grownBy w' none → K (a.put o.dst (.slice (some ⟨w.heap.size, 0, none⟩) n n)) w') :
    if Region.wanted o (yielded ops a.tmps) = true then Oper.wp P o a w K Q else E := by
  rw [if_pos hwant]
  obtain ⟨w', hrun, r1, r2⟩ := run_make_full (P := P) w base t e i z size h1 h2 h3 h4 kl kc n b2 b3 b4
  subst hL
  subst hC
  unfold Oper.wp execOp
  simp only [hop, hl, hc, Sem.run_bind, hrun, Result.andThen_ok, Sem.run_pure]
  exact hK w' r1 r2
/-- One end, and a variable that holds its pointer. -/
structure One (B g cb : Nat) (w : World) (s : En) (vo vi : Value) : Prop where
  e : EnAt g w s vo vi
  c : Cel w cb 32 1 (fun _ => .pointer (some ⟨g, 0, none⟩))
  ne : cb ≠ g
  low : ∀ k, Fp g vo vi k → B ≤ k
section
variable {B g cb : Nat} {w w' : World} {s s' : En} {vo vi vo' vi' : Value}
theorem One.size (h : One B g cb w s vo vi) : B ≤ w.heap.size := Nat.le_trans (h.low g (.inl rfl)) (Nat.le_of_lt h.e.blk)
theorem One.cell (h : One B g cb w s vo vi) : w.cell? ⟨cb, 0, none⟩ = some (.pointer (some ⟨g, 0, none⟩)) := h.c.cell 0 (by decide)
theorem One.far (h : One B g cb w s vo vi) : ¬ Fp g vo vi cb := by
  rintro (hk | hk | hk)
  · exact h.ne hk
  · exact h.e.oo.ne_cel h.c (by decide) hk
  · exact h.e.oi.ne_cel h.c (by decide) hk
theorem One.step {S : Nat → Prop} (h : One B g cb w s vo vi) (hE : EnAt g w' s' vo' vi') (hC : Chg S w w') (hS : ∀ k, k < w.heap.size → S k → Fp g vo vi k) (hFo : Fresh w vo vo') (hFi : Fresh w vi vi') : One B g cb w' s' vo' vi' ∧ Below B w w' := by
  refine ⟨⟨hE, h.c.chg hC (fun hs => h.far (hS cb h.c.blk hs)), h.ne, ?_⟩, hC.below h.size (fun k hk hs => by have hsz := h.size; have := h.low k (hS k (by omega) hs); omega)⟩
  rintro k (rfl | hk | hk)
  · exact h.low k (.inl rfl)
  · rcases hFo with hF | hF
    · exact h.low k (.inr (.inl (by rw [← hF]; exact hk)))
    · exact Nat.le_trans h.size (hF k hk)
  · rcases hFi with hF | hF
    · exact h.low k (.inr (.inr (by rw [← hF]; exact hk)))
    · exact Nat.le_trans h.size (hF k hk)
theorem One.same (h : One B g cb w s vo vi) (hE : EnAt g w' s' vo vi) (hC : Chg (fun k => k = g) w w') : One B g cb w' s' vo vi ∧ Below B w w' :=
  h.step hE hC (fun k _ hk => .inl hk) (Fresh.refl _ _) (Fresh.refl _ _)
theorem One.take {e : Ending} (h : One B g cb w s vo vi) (hp : TakePost g s' vo vi w e w') : e = .returned (.tuple #[]) ∧ ∃ vi', One B g cb w' s' vo vi' ∧ Below B w w' := by
  obtain ⟨he, vi', hE, hC, hF⟩ := hp
  exact ⟨he, vi', h.step hE hC (fun k _ hk => hk.elim .inl (fun h => .inr (.inr h))) (Fresh.refl _ _) hF⟩
theorem One.below (h : One B g cb w s vo vi) (hb : Below w.heap.size w w') : One B g cb w' s vo vi := ⟨h.e.below hb, h.c.below hb h.c.blk, h.ne, h.low⟩
end
theorem cel_one (w : World) (t : TypeId) (v : Value) : Cel (w.alloc (.cells #[v] t)) w.heap.size t 1 (fun _ => v) := by
  refine Cel.new w t #[v] _ (fun i hi => ?_)
  have : i = 0 := by simpa using hi
  subst this
  rfl
theorem refAck_any (a : Int) (w : World) : Calls Try.prog 18 #[.agg #[.int .i64 2, .int .i64 5, .int .i64 0, .int .i64 a, .slice none 0 0]] w fun e w' => e = .returned (.string (strOfNums (wiAck a))) ∧ Below w.heap.size w w' :=
  refSegment_any ⟨2, 5, 0, a, []⟩ none 0 w Ints.nil (fun x h => by cases h) (by simp) (by decide)
theorem tmod_bd (x : Int) : -20000 < x.tmod 20000 ∧ x.tmod 20000 < 20000 := by
  have h1 := Int.tmod_lt_of_pos x (show (0 : Int) < 20000 by decide)
  have h2 := Int.tmod_lt_of_pos (-x) (show (0 : Int) < 20000 by decide)
  rw [Int.neg_tmod] at h2
  omega

set_option maxRecDepth 100000 in
set_option maxHeartbeats 4000000 in
theorem streamWindow_walk (n0 ack : Int) (W : World) (wfn : (Lit.int .i64 n0).wf = true) (wfa : (Lit.int .i64 ack).wf = true) :
    Calls Try.prog 4 #[.int .i64 n0, .int .i64 ack] W fun e w' => e = .returned (.bool true) ∧ Below W.heap.size W w' := by
  have htb := tmod_bd n0
  go_enter Try.func4, Try.ntmps4
  go_upto_region 1 with (fail)
  go_cut [0] (fun v wx => (∃ N : Int, v = .int .i64 N ∧ N < 20000) ∧ wx = W)
  case first =>
    go_wp2
    go_meet
    exact ⟨⟨_, rfl, htb.2⟩, rfl⟩
  case rest =>
    obtain ⟨⟨N, rfl, hN⟩, hW⟩ := hcut
    obtain rfl : W = wc := hW.symm
    clear htb
    by_cases hlt : N < 1
    · have d : decide (N < 1) = true := decide_eq_true hlt
      clear hlt hN
      go_wp2_with (go_at_call 19; refine (awake18_any W).mono ?_; rintro e w20 ⟨rfl, hb20⟩)
      go_ret
      exact ⟨rfl, hb20⟩
    · obtain ⟨n, rfl⟩ : ∃ n : Nat, N = n := ⟨N.toNat, by omega⟩
      have d : decide ((n : Int) < 1) = false := decide_eq_false (by omega)
      have d' : decide (n < 1) = false := decide_eq_false (by omega)
      have hn1 : 1 ≤ n := by omega
      have hn2 : n < 20000 := by omega
      clear hlt hN
      go_wp2_with fail
      refine (dial_any 5 _).mono ?_
      intro e w1 hN1
      obtain ⟨rfl, hE1, hb1⟩ := hN1
      obtain ⟨i0, hi, hz0, hz1, hz2⟩ := info_parts Try.info_u8
      have hE2 := hE1.below (w' := w1.alloc (.cells #[.pointer (some ⟨W.heap.size, 0, none⟩)] 32)) ((Below.refl _ _).alloc (Nat.le_refl _) _)
      have hc2 : (w1.alloc (.cells #[.pointer (some ⟨W.heap.size, 0, none⟩)] 32)).cell? ⟨w1.heap.size, 0, none⟩ = some (.pointer (some ⟨W.heap.size, 0, none⟩)) := cell_of_row _ _ 0 _ _ (0, 0) (heap_alloc_new w1 _)
      have hCb0 := cel_one w1 32 (.pointer (some ⟨W.heap.size, 0, none⟩))
      have hB2 := hb1.alloc hb1.size (.cells #[.pointer (some ⟨W.heap.size, 0, none⟩)] 32)
      have hgc : W.heap.size < w1.heap.size := hE1.blk
      go_upto_region 5 with (fail)
      generalize (w1.alloc (.cells #[.pointer (some ⟨W.heap.size, 0, none⟩)] 32)) = w2 at *
      clear hE1 hb1
      generalize hg : W.heap.size = g at hE2 hc2 hB2 hgc hCb0 ⊢
      have HG := Lib.hid hg
      clear hg
      generalize w1.heap.size = cb at *
      have hCb : Cel w2 cb 32 1 (fun _ => .pointer (some ⟨g, 0, none⟩)) := hCb0
      have hO2 : One g g cb w2 (newEnd 5 1) (.slice none 0 0) (.slice none 0 0) := ⟨hE2, hCb, by omega, by rintro k (rfl | h | h); exact Nat.le_refl _; cases h; cases h⟩
      obtain ⟨w3, hrun, hrow, hgrow⟩ := run_make_full (P := Try.prog) w2.drew 0 22 5 i0 (.int .u8 0) 1 Try.underlying22 hi hz0 hz1 .i64 .i64 n (by rw [hz2]; omega) (by unfold maxLen; omega) (Nat.zero_le _)
      have hI3 : Ints .u8 w3 (some ⟨w2.drew.heap.size, 0, none⟩) (List.replicate n 0) := by
        have e : (Value.int IntKind.u8 0).cells = #[.int .u8 0] := rfl
        rw [e, toList_madeCells_one] at hrow
        refine Ints.of_own (n := n) (c := n) (base := 0) (e := 5) ?_
        simpa using hrow
      have hb3 : Below w2.heap.size w2 w3 := ((Below.refl w2.heap.size w2).drew).grown hgrow (Nat.le_refl _) (by simp)
      have hO3 := hO2.below hb3
      have hB3 := hB2.trans (hb3.mono hO2.size)
      have hwr := write_any g (newEnd 5 1) _ _ (some ⟨w2.drew.heap.size, 0, none⟩) n n (List.replicate n 0) w3 hO3.e (newEnd_ok 5 1 (by decide)) hI3 (by simp) (by omega)
      unfold WrPost at hwr
      rw [wi_write n (by omega)] at hwr
      have c2 : w2.drew.cell? ⟨cb, 0, none⟩ = some (.pointer (some ⟨g, 0, none⟩)) := hO2.cell
      have c3 := hO3.cell
      clear hrow hgrow hI3 hCb hE2 hCb0
      go_cut [37] (fun v wx => v = .bool false ∧ ∃ vo, One g g cb wx (wiD n) vo (.slice none 0 0) ∧ Below g W wx)
      case first => as_aux_lemma =>
        go_wp2
        go_region_with (first
          | (have hm := hO4; go_at_call 22; refine (out_at g (wiS n) (wiD n) _ _ 0 w4 _ 1 (wi_out n) rfl hO4.e (wiS_ok n (by omega)) ok0).mono ?_; rintro e w5 ⟨A5, rfl, _, hE5, hC5⟩; obtain ⟨hO5, hb5⟩ := hO4.same hE5 hC5; have c5 := hO5.cell)
          | (go_at_call 21; refine hwr.mono ?_; rintro e w4 ⟨vo4, rfl, hE4, hC4, hF4⟩; obtain ⟨hO4, hb4⟩ := hO3.step hE4 hC4 (fun k _ hk => hk.elim .inl (fun h => .inr (.inl h))) hF4 (Fresh.refl _ _); have c4 := hO4.cell))
        all_goals
          have hBx := (hB3.trans hb4).trans hb5
          clear hrun hwr hO2 hO3 hO4 hB2 hB3 hb4 hb5 hb3 c2 c3 c4 c5 hE4 hC4 hF4 hE5 hC5 hc2
          go_wp2
          go_meet
          exact ⟨rfl, vo4, hO5, hBx⟩
      case rest =>
        obtain ⟨rfl, vo, hO, hB⟩ := hcut
        clear hrun hwr hO2 hO3 hB2 hB3 hb3 c2 c3 hc2 hi hz0 hz1 hz2
        have hs19 : (strOfNums (wiAck 0)).size = 19 := by rw [strOfNums_size', wi_ack_len]
        have hbs : bytesOf (strOfNums (wiAck 0)) = wiAck 0 := bytesOf_str _ (wi_ack_ok 0)
        have HS := Lib.hid hs19
        have HBS := Lib.hid hbs
        clear hs19 hbs
        go_upto_region 7 with (fail)
        go_cut [] (fun wx => ∃ vo vi, One g g cb wx (wiO n) vo vi ∧ Below g W wx)
        case first => as_aux_lemma =>
          have c0 := hO.cell
          go_wp2
          go_region_with (first
            | (have hm := hO8; go_at_call 23; refine HIN.out.mono ?_; intro e w9 hp; obtain ⟨rfl, vi9, hO9, hb9⟩ := hO8.take hp; have c9 := hO9.cell)
            | (go_at_call 18; refine (refAck_any 0 _).mono ?_; rintro e w7 ⟨rfl, hb7⟩; have hO7 := (hO.below ((Below.refl _ _).drew)).below hb7; have c7 := hO7.cell; obtain ⟨Ay, cy, w8, hrun8, hIy, hcy1, hcy2, hb8, hfy⟩ := run_conv w7 (strOfNums (wiAck 0)) (by rw [HS.out]; decide); rw [HS.out] at hrun8 hcy1; rw [HBS.out] at hIy; have hO8 := hO7.below hb8; have c8 := hO8.cell; have hin := in_any g (wiD n) _ _ Ay 19 cy (wiAck 0) 0 w8 hO8.e (wiD_ok n (by omega)) hIy (wi_ack_len 0) (wi_ack_ok 0) hcy1 hcy2 (by decide); rw [wi_in] at hin; have HIN := Lib.hid hin; clear hin))
          all_goals
            have hBx : Below g W w9 := ((hB.drew).trans ((hb7.trans (hb8.mono hb7.size)).mono (by exact hO.size))).trans hb9
            clear HIN hrun8 hO hB hO7 hO8 hb7 hb8 hb9 c7 c8 c9 c0 hIy hfy hp
            go_wp2
            go_meet
            exact ⟨vo, vi9, hO9, hBx⟩
        case rest =>
          obtain ⟨vo2, vi2, hO2, hB2⟩ := hcut
          clear hO hB HS HBS
          have hfacts := win_facts n hn1 hn2
          have hw1 := wi1_wi n hn2
          obtain ⟨b, hb⟩ : ∃ b, wiB n = b := ⟨_, rfl⟩
          have hw3 := fun a (ha : a ≤ b) => wi3_wi n hn1 hn2 a (by rw [hb]; exact ha)
          have hw4 := fun a (ha : a ≤ b) => wi4_wi n hn1 hn2 a (by rw [hb]; exact ha)
          rw [hb] at hfacts
          obtain ⟨L1, L2, L3, L4, L5, L6, L7, L8⟩ := hfacts
          have hs1 := sent_any g cb (wiO n) _ _ 1 _ hO2.e (wiO_wi n hn2).ok (wiO_plain n) (by decide) hO2.cell
          unfold SentPost at hs1
          rw [L1, show endOf (wiO n) 1 = b from hb] at hs1
          have hb1 : 0 < b := by omega
          have HL8 := Lib.hid L8
          have HL5 := Lib.hid L5
          have HL6 := Lib.hid L6
          have HW1 := Lib.hid hw1
          have HW3 := Lib.hid hw3
          have HW4 := Lib.hid hw4
          clear L1 L5 L6 L7 L8 hb hw1 hw3 hw4
          go_wp2_with fail
          refine hs1.mono ?_
          rintro e w10 ⟨rfl, hE10, hC10⟩
          obtain ⟨hO10, hb10⟩ := hO2.same hE10 hC10
          have hO10 : One g g cb w10 (wi1 n) _ _ := hO10
          have hB10 := hB2.trans hb10
          have hs2 := sent_any g cb (wi1 n) _ _ 2 w10 hO10.e HW1.out.ok HW1.out.pl (by decide) hO10.cell
          unfold SentPost at hs2
          rw [HL5.out, HL6.out] at hs2
          generalize endOf (wi1 n) 2 = E2 at hs2
          clear hs1 hO2 hB2 hE10 hC10 hb10
          go_wp2_with fail
          refine hs2.mono ?_
          rintro e w11 ⟨rfl, hE11, hC11⟩
          obtain ⟨hO11, hb11⟩ := hO10.same hE11 hC11
          have hB11 := hB10.trans hb11
          clear hs2 hO10 hB10 hE11 hC11 hb11
          go_upto_region 11 with (fail)
          go_cut [79] (fun v wx => v = .bool false ∧ wx = w11)
          case first => as_aux_lemma =>
            have q1 : decide ((4400 : Int) < b) = false := decide_eq_false (by omega)
            by_cases h4 : n ≤ 4000
            · have q2 : decide (b < (n : Int)) = false := decide_eq_false (by omega)
              have h4i : (n : Int) ≤ 4000 := by omega
              clear HL8 HL5 HL6 HW1 HW3 HW4 L3
              go_wp2
              all_goals
                go_meet
                exact ⟨rfl, rfl⟩
            · have q2 : decide (b < (4000 : Int)) = false := decide_eq_false (by omega)
              have h4i : (4000 : Int) < n := by omega
              clear HL8 HL5 HL6 HW1 HW3 HW4 L3
              go_wp2
              all_goals
                go_meet
                exact ⟨rfl, rfl⟩
          case rest =>
            obtain ⟨rfl, hw⟩ := hcut
            obtain rfl : w11 = wc := hw.symm
            have htb : -b ≤ ack.tmod (b + 1) ∧ ack.tmod (b + 1) ≤ b := by
              have h1 := Int.tmod_lt_of_pos ack (show (0 : Int) < b + 1 by omega)
              have h2 := Int.tmod_lt_of_pos (-ack) (show (0 : Int) < b + 1 by omega)
              rw [Int.neg_tmod] at h2
              omega
            go_upto_region 13 with (fail)
            go_cut [1] (fun v wx => (∃ a : Int, v = .int .i64 a ∧ 0 ≤ a ∧ a ≤ b) ∧ wx = w11)
            case first => as_aux_lemma =>
              have t1 := htb.1
              have t2 := htb.2
              clear htb HL8 HL5 HL6 HW1 HW3 HW4 L3
              go_wp2
              go_meet
              exact ⟨⟨_, rfl, Int.emod_nonneg _ (by omega), by have := Int.emod_lt_of_pos (ack.tmod (b + 1) + b + 1) (show (0 : Int) < b + 1 by omega); omega⟩, rfl⟩
            case rest =>
              obtain ⟨⟨a, rfl, ha0, hab⟩, hw2⟩ := hcut
              obtain rfl : w11 = wc := hw2.symm
              clear htb
              have hs19 : (strOfNums (wiAck a)).size = 19 := by rw [strOfNums_size', wi_ack_len]
              have hbs : bytesOf (strOfNums (wiAck a)) = wiAck a := bytesOf_str _ (wi_ack_ok a)
              have HS := Lib.hid hs19
              have HBS := Lib.hid hbs
              have hin0 : inS (wi1 n) (wiAck a) 3 = wi3 n a := wi_in3 (wi1 n) a 3 HW1.out.pl HW1.out.id ⟨ha0, by omega⟩
              have HIN0 := Lib.hid hin0
              clear hs19 hbs hin0
              go_upto_region 14 with (fail)
              go_cut [] (fun wx => ∃ vo vi, One g g cb wx (wi3 n a) vo vi ∧ Below g W wx)
              case first => as_aux_lemma =>
                have c0 := hO11.cell
                go_wp2
                go_region_with (first
                  | (have hm := hO8; go_at_call 23; refine HIN.out.mono ?_; intro e w9 hp; obtain ⟨rfl, vi9, hO9, hb9⟩ := hO8.take hp; have c9 := hO9.cell)
                  | (go_at_call 18; refine (refAck_any a _).mono ?_; rintro e w7 ⟨rfl, hb7⟩; have hO7 := (hO11.below ((Below.refl _ _).drew)).below hb7; have c7 := hO7.cell; obtain ⟨Ay, cy, w8, hrun8, hIy, hcy1, hcy2, hb8, hfy⟩ := run_conv w7 (strOfNums (wiAck a)) (by rw [HS.out]; decide); rw [HS.out] at hrun8 hcy1; rw [HBS.out] at hIy; have hO8 := hO7.below hb8; have c8 := hO8.cell; have hin := in_any g (wi1 n) _ _ Ay 19 cy (wiAck a) 3 w8 hO8.e HW1.out.ok hIy (wi_ack_len a) (wi_ack_ok a) hcy1 hcy2 (by decide); rw [HIN0.out] at hin; have HIN := Lib.hid hin; clear hin))
                all_goals
                  have hBx : Below g W w9 := ((hB11.drew).trans ((hb7.trans (hb8.mono hb7.size)).mono (by exact hO11.size))).trans hb9
                  clear HIN hrun8 hO11 hB11 hO7 hO8 hb7 hb8 hb9 c7 c8 c9 c0 hIy hfy hp
                  go_wp2
                  go_meet
                  exact ⟨_, vi9, hO9, hBx⟩
              case rest =>
                obtain ⟨vo3, vi3, hO3, hB3⟩ := hcut
                clear hO11 hB11 HS HBS HIN0
                have hL8 := HL8.out a ha0 hab
                have hw3 := HW3.out a hab
                have hw4 := HW4.out a hab
                have hs4 := sent_any g cb (wi3 n a) _ _ 4 _ hO3.e hw3.ok hw3.pl (by decide) hO3.cell
                unfold SentPost at hs4
                rw [show endOf (wi3 n a) 4 = wiF n a from rfl, show (outS (wi3 n a) 4).2 = wi4 n a from rfl] at hs4
                generalize firstOf (wi3 n a) 4 = D at hs4 hL8
                generalize wiF n a = F at hs4 hL8
                have HWq := Lib.hid hw4
                clear HL8 HL5 HL6 HW1 HW3 HW4 hw3 hw4
                go_wp2_with fail
                refine hs4.mono ?_
                rintro e w13 ⟨rfl, hE13, hC13⟩
                obtain ⟨hO13, hb13⟩ := hO3.same hE13 hC13
                have hB13 := hB3.trans hb13
                have hs5 := sent_any g cb (wi4 n a) _ _ 30 w13 hO13.e HWq.out.ok HWq.out.pl (by decide) hO13.cell
                unfold SentPost at hs5
                have hst : EnAt g w13 (wi4 n a) _ _ := hO13.e
                have hs3 : (outS (wi4 n a) 30).2.st = 3 := HWq.out.pl.out.st
                generalize (outS (wi4 n a) 30).2 = s5 at hs5 hs3
                generalize endOf (wi4 n a) 30 = E5 at hs5
                generalize firstOf (wi4 n a) 30 = G at hs5 hL8
                obtain ⟨hA, hG⟩ := hL8
                obtain ⟨b2, hb2⟩ : ∃ b2 : Int, b2 = if 0 ≤ D then F else b := ⟨_, rfl⟩
                rw [← hb2] at hG
                have HB2 := Lib.hid hb2
                have HG2 := Lib.hid hG
                have HA := Lib.hid hA
                clear hs4 hO3 hB3 hE13 hC13 hb13 hst hA hG hb2
                go_upto_region 16 with (fail)
                go_cut [133] (fun v wx => v = .bool false ∧ wx = w13)
                case first => as_aux_lemma =>
                  rcases HA.out with ⟨rfl, h1, h2, h3, h4⟩ | ⟨rfl, h1⟩
                  · have q1 : decide (0 ≤ D) = true := decide_eq_true h2
                    have q2 : (D != D) = false := by simp
                    have q3 : decide (a + 4400 < F) = false := decide_eq_false (by omega)
                    have q4 : decide (D < 0) = false := decide_eq_false (by omega)
                    clear HA HB2 HG2 hs5 HWq
                    go_wp2
                    go_meet
                    exact ⟨rfl, rfl⟩
                  · by_cases hbn : b < n
                    · have q1 : decide (b < (n : Int)) = true := decide_eq_true hbn
                      have q2 : decide (b < a + 4000) = false := decide_eq_false (by omega)
                      clear HA HB2 HG2 hs5 HWq h1
                      go_wp2
                      go_meet
                      exact ⟨rfl, rfl⟩
                    · have q1 : decide (b < (n : Int)) = false := decide_eq_false hbn
                      clear HA HB2 HG2 hs5 HWq h1
                      go_wp2
                      go_meet
                      exact ⟨rfl, rfl⟩
                case rest =>
                  obtain ⟨rfl, hw3⟩ := hcut
                  obtain rfl : w13 = wc := hw3.symm
                  by_cases h0 : 0 ≤ D
                  · have q0 : decide (0 ≤ D) = true := decide_eq_true h0
                    obtain rfl : b2 = F := HB2.out.trans (if_pos h0)
                    clear HB2 HA h0
                    go_wp2_with fail
                    refine hs5.mono ?_
                    rintro e w14 ⟨rfl, hE14, hC14⟩
                    obtain ⟨hO14, hb14⟩ := hO13.same hE14 hC14
                    have hB14 := hB13.trans hb14
                    have hst := state_any g s5 _ _ w14 hO14.e
                    rw [hs3] at hst
                    have hz14 := hO14.size
                    have hc14 := hO14.cell
                    clear hs5 hO13 hB13 hE14 hC14 hb14 hO14
                    rcases HG2.out with h | ⟨h, h', h''⟩
                    · subst h
                      have t3 : decide (G < 0) = false := decide_eq_false (by omega)
                      by_cases e1 : G = b2
                      · have t1 : (G == b2) = true := by simpa using e1
                        by_cases e2 : b2 = n
                        · have t2 : (b2 == (n : Int)) = true := by simpa using e2
                          clear e1 e2 HG2
                          go_wp2_with (first
                            | (go_at_call 25; refine hst.mono ?_; rintro e w15 ⟨rfl, rfl⟩)
                            | (go_at_call 19; refine (awake18_any w14).mono ?_; rintro e w16 ⟨rfl, hb16⟩))
                          go_ret
                          refine ⟨rfl, ?_⟩
                          rw [HG.out]
                          exact hB14.trans (hb16.mono hz14)
                        · have t2 : (b2 == (n : Int)) = false := by simpa using e2
                          clear e1 e2 HG2
                          go_wp2_with (first
                            | (go_at_call 25; refine hst.mono ?_; rintro e w15 ⟨rfl, rfl⟩)
                            | (go_at_call 19; refine (awake18_any w14).mono ?_; rintro e w16 ⟨rfl, hb16⟩))
                          go_ret
                          refine ⟨rfl, ?_⟩
                          rw [HG.out]
                          exact hB14.trans (hb16.mono hz14)
                      · have t1 : (G == b2) = false := by simpa using e1
                        clear e1 HG2
                        go_wp2_with (first
                          | (go_at_call 25; refine hst.mono ?_; rintro e w15 ⟨rfl, rfl⟩)
                          | (go_at_call 19; refine (awake18_any w14).mono ?_; rintro e w16 ⟨rfl, hb16⟩))
                        go_ret
                        refine ⟨rfl, ?_⟩
                        rw [HG.out]
                        exact hB14.trans (hb16.mono hz14)
                    · have t1 : (a == b2) = true := by simpa using h'
                      have t2 : (b2 == (n : Int)) = true := by simpa using h''
                      subst h
                      clear h' h'' HG2
                      go_wp2_with (first
                        | (go_at_call 25; refine hst.mono ?_; rintro e w15 ⟨rfl, rfl⟩)
                        | (go_at_call 19; refine (awake18_any w14).mono ?_; rintro e w16 ⟨rfl, hb16⟩))
                      go_ret
                      refine ⟨rfl, ?_⟩
                      rw [HG.out]
                      exact hB14.trans (hb16.mono hz14)
                  · have q0 : decide (0 ≤ D) = false := decide_eq_false h0
                    obtain rfl : b2 = b := HB2.out.trans (if_neg h0)
                    clear HB2 HA h0
                    go_wp2_with fail
                    refine hs5.mono ?_
                    rintro e w14 ⟨rfl, hE14, hC14⟩
                    obtain ⟨hO14, hb14⟩ := hO13.same hE14 hC14
                    have hB14 := hB13.trans hb14
                    have hst := state_any g s5 _ _ w14 hO14.e
                    rw [hs3] at hst
                    have hz14 := hO14.size
                    have hc14 := hO14.cell
                    clear hs5 hO13 hB13 hE14 hC14 hb14 hO14
                    rcases HG2.out with h | ⟨h, h', h''⟩
                    · subst h
                      have t3 : decide (G < 0) = false := decide_eq_false (by omega)
                      by_cases e1 : G = b2
                      · have t1 : (G == b2) = true := by simpa using e1
                        by_cases e2 : b2 = n
                        · have t2 : (b2 == (n : Int)) = true := by simpa using e2
                          clear e1 e2 HG2
                          go_wp2_with (first
                            | (go_at_call 25; refine hst.mono ?_; rintro e w15 ⟨rfl, rfl⟩)
                            | (go_at_call 19; refine (awake18_any w14).mono ?_; rintro e w16 ⟨rfl, hb16⟩))
                          go_ret
                          refine ⟨rfl, ?_⟩
                          rw [HG.out]
                          exact hB14.trans (hb16.mono hz14)
                        · have t2 : (b2 == (n : Int)) = false := by simpa using e2
                          clear e1 e2 HG2
                          go_wp2_with (first
                            | (go_at_call 25; refine hst.mono ?_; rintro e w15 ⟨rfl, rfl⟩)
                            | (go_at_call 19; refine (awake18_any w14).mono ?_; rintro e w16 ⟨rfl, hb16⟩))
                          go_ret
                          refine ⟨rfl, ?_⟩
                          rw [HG.out]
                          exact hB14.trans (hb16.mono hz14)
                      · have t1 : (G == b2) = false := by simpa using e1
                        clear e1 HG2
                        go_wp2_with (first
                          | (go_at_call 25; refine hst.mono ?_; rintro e w15 ⟨rfl, rfl⟩)
                          | (go_at_call 19; refine (awake18_any w14).mono ?_; rintro e w16 ⟨rfl, hb16⟩))
                        go_ret
                        refine ⟨rfl, ?_⟩
                        rw [HG.out]
                        exact hB14.trans (hb16.mono hz14)
                    · have t1 : (a == b2) = true := by simpa using h'
                      have t2 : (b2 == (n : Int)) = true := by simpa using h''
                      subst h
                      clear h' h'' HG2
                      go_wp2_with (first
                        | (go_at_call 25; refine hst.mono ?_; rintro e w15 ⟨rfl, rfl⟩)
                        | (go_at_call 19; refine (awake18_any w14).mono ?_; rintro e w16 ⟨rfl, hb16⟩))
                      go_ret
                      refine ⟨rfl, ?_⟩
                      rw [HG.out]
                      exact hB14.trans (hb16.mono hz14)
end Go.Proofs.Ytoeipgbnjcgbjaa
