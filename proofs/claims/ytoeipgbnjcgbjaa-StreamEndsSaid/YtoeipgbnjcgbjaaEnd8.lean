/- (*stream.End): In. -/
import Derived.Test.YtoeipgbnjcgbjaaEnd7
import Derived.Test.YtoeipgbnjcgbjaaSeg6
namespace Go.Proofs.Ytoeipgbnjcgbjaa
open Go.RowKit
set_option linter.unusedVariables false

def theTakings : Array Value := #[.nilFunc, .func (.func 85) #[] #[], .func (.func 86) #[] #[], .func (.func 87) #[] #[], .nilFunc]
set_option maxRecDepth 100000 in
theorem takings_any (w : World) : Calls Try.prog 59 #[] w fun e w' => e = .returned (.agg #[.nilFunc, .func (.func 85) #[] #[], .func (.func 86) #[] #[], .func (.func 87) #[] #[], .nilFunc]) ∧ Below w.heap.size w w' := by
  go_enter Try.func59, Try.ntmps59
  go_wp2
  refine bodyPost_ret (v := .agg theTakings) (by simp [results, Try.results59, go_sem, theTakings]) rfl ⟨rfl, ?_⟩
  exact (Below.refl _ _).alloc (Nat.le_refl _) _
theorem take_ix1 (w : World) : (Instr.index 96 (.agg #[.nilFunc, .func (.func 85) #[] #[], .func (.func 86) #[] #[], .func (.func 87) #[] #[], .nilFunc]) (.int .i64 1)).run Try.prog w = .ok (.func (.func 85) #[] #[]) w := by kernel_rfl
theorem take_ix2 (w : World) : (Instr.index 96 (.agg #[.nilFunc, .func (.func 85) #[] #[], .func (.func 86) #[] #[], .func (.func 87) #[] #[], .nilFunc]) (.int .i64 2)).run Try.prog w = .ok (.func (.func 86) #[] #[]) w := by kernel_rfl
theorem take_ix3 (w : World) : (Instr.index 96 (.agg #[.nilFunc, .func (.func 85) #[] #[], .func (.func 86) #[] #[], .func (.func 87) #[] #[], .nilFunc]) (.int .i64 3)).run Try.prog w = .ok (.func (.func 87) #[] #[]) w := by kernel_rfl
theorem TakePost.after {g : Nat} {s' : En} {vo vi : Value} {w w1 w' : World} {e : Ending} (hc : Chg (fun k => k = g) w w1) (h : TakePost g s' vo vi w1 e w') : TakePost g s' vo vi w e w' := by
  obtain ⟨he, vi', hE, hC, hF⟩ := h
  exact ⟨he, vi', hE, (hc.mono (S' := fun k => k = g ∨ vi.ownBlock = some k) (fun _ _ h => .inl h)).trans hC (fun _ _ h => h), hF.imp (fun h => h) (fun h k hk => Nat.le_trans hc.size (h k hk))⟩

set_option maxRecDepth 100000 in
set_option maxHeartbeats 4000000 in
theorem in_any (g : Nat) (s : En) (vo vi : Value) (A : Option Addr) (n c : Nat) (b : List Int) (now : Int) (w : World) (h : EnAt g w s vo vi) (hok : EnOk s) (hI : Ints .u8 w A b) (hn : b.length = n) (hb : Bytes b) (hc : n ≤ c) (hcm : c ≤ 9223372036854775807) (hsz : n ≤ 140737488355000) :
    Calls Try.prog 23 #[.pointer (some ⟨g, 0, none⟩), .slice A n c, .int .i64 now] w (TakePost g (inS s b now) vo vi w) := by
  have hg := h.blk
  have hfp := h.fp_lt
  cases hp : parseB b
  · have hP := parse_no A n c b w hI hn hb hc hcm hsz hp
    have HE : Hid (inS s b now = s) := by show _ = _; unfold inS; rw [hp]; rfl
    clear hp
    go_enter Try.func23, Try.ntmps23
    go_wp2_with fail
    refine hP.mono ?_
    rintro e w2 ⟨rfl, hb2⟩
    unfold zeroSeg
    have hE2 := h.below hb2
    clear hP
    go_wp2
    go_quiet (fail)
    go_wp2
    go_end0
    rw [HE.out]
    exact TakePost.same ((hE2.below ((Below.refl _ _).alloc (Nat.le_refl _) _)).drewN _) (((Chg.of_below hb2).alloc _).drewN _)
  · have hP := parse_yes A n c b w hI hn hb hc hcm hp
    have HE : Hid (inS s b now = stepS s (parseS b) now) := by show _ = _; unfold inS; rw [hp]; rfl
    have hdl : (parseS b).data.length ≤ 400 := by
      have := of_decide_eq_true hp
      show ((b.drop 15).take (b.length - 19)).length ≤ 400
      rw [List.length_take, List.length_drop]; omega
    have hack : (Lit.int .i64 (parseS b).ack).wf = true := by
      have := of_decide_eq_true hp
      have hk := nat4_ok b 9 hb (by omega)
      show (Lit.int .i64 (nat4 b 9)).wf = true
      generalize nat4 b 9 = z at hk ⊢
      simp [Lit.wf, IntKind.min, IntKind.max, IntKind.bits, IntKind.signed]
      omega
    clear hp
    go_enter Try.func23, Try.ntmps23
    go_wp2_with fail
    refine hP.mono ?_
    rintro e w2 ⟨A2, rfl, ho2, hb2⟩
    generalize parseS b = q at *
    clear hP
    have hE2 := h.below hb2
    have hI2 := ho2.ints
    have hS := segIn_new (c := q.data.length) q hE2 hI2
    have hz2 := hb2.size
    obtain ⟨t, id, seq, ack, data⟩ := q
    simp only [segV] at *
    have hch2 := (Chg.of_below (S := fun k => k = g) hb2).alloc (.cells #[.int .i64 t, .int .i64 id, .int .i64 seq, .int .i64 ack, .slice A2 data.length data.length] 24)
    have hC : Cel (w2.alloc (.cells #[.int .i64 t, .int .i64 id, .int .i64 seq, .int .i64 ack, .slice A2 data.length data.length] 24)) w2.heap.size 24 5 (fun i => (#[.int .i64 t, .int .i64 id, .int .i64 seq, .int .i64 ack, .slice A2 data.length data.length] : Array Value).getD i undef) := Cel.new w2 24 #[.int .i64 t, .int .i64 id, .int .i64 seq, .int .i64 ack, .slice A2 data.length data.length] _ (fun i hi => getD_some hi)
    go_upto_region 1 with (fail)
    generalize (w2.alloc (.cells #[.int .i64 t, .int .i64 id, .int .i64 seq, .int .i64 ack, .slice A2 data.length data.length] 24)) = w3 at *
    have hE := hS.e
    have hI3 := hS.i
    simp only at hI3
    have k0 : w3.cell? ⟨w2.heap.size, 0, none⟩ = some (.int .i64 t) := hC.cell 0 (by decide)
    have k1 : w3.cell? ⟨w2.heap.size, 1, none⟩ = some (.int .i64 id) := hC.cell 1 (by decide)
    have k2 : w3.cell? ⟨w2.heap.size, 2, none⟩ = some (.int .i64 seq) := hC.cell 2 (by decide)
    have k3 : w3.cell? ⟨w2.heap.size, 3, none⟩ = some (.int .i64 ack) := hC.cell 3 (by decide)
    have k4 : w3.cell? ⟨w2.heap.size, 4, none⟩ = some (.slice A2 data.length data.length) := hC.cell 4 (by decide)
    have hgs := hC.blk
    have c0 := hE.c0
    have c1 := hE.c1
    have f1 := hE.cel.frozen 1
    have hid := hok.id
    have hst := hok.st
    have w0 : IntKind.i64.wrap s.id = s.id := IntWalk.i64_in _ (by omega)
    clear hS ho2 hI2 hE2 hb2 h
    generalize w2.heap.size = X at *
    by_cases q1 : id = s.id
    · have t1 : (id != s.id) = false := by simpa using q1
      by_cases q2 : s.st = 4
      · rw [q2] at c1
        have HE : Hid (inS s b now = s) := by show _ = _; rw [HE.out]; unfold stepS; rw [if_pos (.inr q2)]
        clear q1 q2
        go_wp2
        go_quiet (fail)
        go_wp2
        go_end0
        rw [HE.out]
        exact TakePost.same (hE.drewN _) (hch2.drewN _)
      · have t2 : (s.st == 4) = false := by simpa using q2
        have d2 : decide (s.st = 4) = false := decide_eq_false q2
        have hHE : Hid (stepS s ⟨t, id, seq, ack, data⟩ now = if t = 5 then { s with st := 4 } else if s.st = 1 then dialS s ⟨t, id, seq, ack, data⟩ else if s.st = 2 then listenS s ⟨t, id, seq, ack, data⟩ else openS s ⟨t, id, seq, ack, data⟩ now) := by
          show _ = _
          unfold stepS
          rw [if_neg (by rintro (h | h); exact h q1; exact q2 h)]
        by_cases q3 : t = 5
        · subst q3
          have HE : Hid (inS s b now = { s with st := 4 }) := by show _ = _; rw [HE.out, hHE.out]; rfl
          clear q1 q2 d2 hHE
          go_wp2
          go_quiet (fail)
          go_wp2
          go_end0
          rw [HE.out]
          exact TakePost.same ((hE.drewN _).set 1 (.int .i64 4) { s with st := 4 } rfl rfl (enF_cases rfl rfl rfl rfl rfl rfl rfl rfl rfl rfl rfl rfl rfl rfl)) ((hch2.drewN _).setCell (.inl rfl) _)
        · have t3 : (t == 5) = false := by simpa using q3
          rw [if_neg q3] at hHE
          clear q1 d2
          go_wp2
          go_quiet (fail)
          go_wp2
          have hE3 := hE.drewN nq
          have hch3 := hch2.drewN nq
          have hI3' : Ints .u8 (w3.drewN nq) A2 data := hI3
          have hk : ∀ i, (w3.drewN nq).cell? ⟨X, i, none⟩ = w3.cell? ⟨X, i, none⟩ := fun i => rfl
          rw [← hk 0] at k0
          rw [← hk 1] at k1
          rw [← hk 2] at k2
          rw [← hk 3] at k3
          rw [← hk 4] at k4
          clear hE hch2 hI3 hk c0 c1 f1 t1 t2 t3
          have hgs' : X < (w3.drewN nq).heap.size := hgs
          generalize w3.drewN nq = w4 at *
          have c1 := hE3.c1
          rcases (show s.st = 1 ∨ s.st = 2 ∨ s.st = 3 by omega) with q4 | q4 | q4
          · rw [q4] at c1
            have HE : Hid (inS s b now = dialS s ⟨t, id, seq, ack, data⟩) := by show _ = _; rw [HE.out, hHE.out, if_pos q4]
            clear hHE q4 q2 hst
            have hix := take_ix1
            go_region_with (first
              | (have hm := hb5; go_at_call 85; refine (dialing_any g s vo vi ⟨t, id, seq, ack, data⟩ A2 data.length now w5 hE5 hI5).mono ?_; rintro e w6 ⟨rfl, vi6, hE6, hC6, hF6⟩)
              | (go_at_call 59; refine (takings_any w4.drew).mono ?_; rintro e w5 ⟨rfl, hb5⟩; have d1 := (hb5.cell (p := ⟨g, 1, none⟩) hE3.blk).trans c1; have hE5 := hE3.drew.below hb5; have hI5 : Ints .u8 w5 A2 data := Ints.below (w := w4.drew) hI3' hb5; have hX := fun i => hb5.cell (p := ⟨X, i, none⟩) hgs'; have m0 := (hX 0).trans k0; have m1 := (hX 1).trans k1; have m2 := (hX 2).trans k2; have m3 := (hX 3).trans k3; have m4 := (hX 4).trans k4))
            all_goals
              go_end0
              rw [HE.out]
              exact TakePost.after ((hch3.drew).trans (Chg.of_below (S := fun _ => False) hb5) (fun _ _ h => h.elim)) ⟨rfl, vi6, hE6, hC6, hF6⟩
          · rw [q4] at c1
            have HE : Hid (inS s b now = listenS s ⟨t, id, seq, ack, data⟩) := by show _ = _; rw [HE.out, hHE.out, if_neg (by omega), if_pos q4]
            clear hHE q4 q2 hst
            have hix := take_ix2
            go_region_with (first
              | (have hm := hb5; go_at_call 86; refine (listening_any g s vo vi ⟨t, id, seq, ack, data⟩ A2 data.length now w5 hE5 hI5).mono ?_; rintro e w6 ⟨rfl, vi6, hE6, hC6, hF6⟩)
              | (go_at_call 59; refine (takings_any w4.drew).mono ?_; rintro e w5 ⟨rfl, hb5⟩; have d1 := (hb5.cell (p := ⟨g, 1, none⟩) hE3.blk).trans c1; have hE5 := hE3.drew.below hb5; have hI5 : Ints .u8 w5 A2 data := Ints.below (w := w4.drew) hI3' hb5; have hX := fun i => hb5.cell (p := ⟨X, i, none⟩) hgs'; have m0 := (hX 0).trans k0; have m1 := (hX 1).trans k1; have m2 := (hX 2).trans k2; have m3 := (hX 3).trans k3; have m4 := (hX 4).trans k4))
            all_goals
              go_end0
              rw [HE.out]
              exact TakePost.after ((hch3.drew).trans (Chg.of_below (S := fun _ => False) hb5) (fun _ _ h => h.elim)) ⟨rfl, vi6, hE6, hC6, hF6⟩
          · rw [q4] at c1
            have HE : Hid (inS s b now = openS s ⟨t, id, seq, ack, data⟩ now) := by show _ = _; rw [HE.out, hHE.out, if_neg (by omega), if_neg (by omega)]
            clear hHE q4 q2 hst
            have hix := take_ix3
            go_region_with (first
              | (have hm := hb5; go_at_call 87; refine (open_any g s vo vi ⟨t, id, seq, ack, data⟩ A2 data.length now w5 hE5 hok hI5 hack hdl).mono ?_; rintro e w6 ⟨rfl, vi6, hE6, hC6, hF6⟩)
              | (go_at_call 59; refine (takings_any w4.drew).mono ?_; rintro e w5 ⟨rfl, hb5⟩; have d1 := (hb5.cell (p := ⟨g, 1, none⟩) hE3.blk).trans c1; have hE5 := hE3.drew.below hb5; have hI5 : Ints .u8 w5 A2 data := Ints.below (w := w4.drew) hI3' hb5; have hX := fun i => hb5.cell (p := ⟨X, i, none⟩) hgs'; have m0 := (hX 0).trans k0; have m1 := (hX 1).trans k1; have m2 := (hX 2).trans k2; have m3 := (hX 3).trans k3; have m4 := (hX 4).trans k4))
            all_goals
              go_end0
              rw [HE.out]
              exact TakePost.after ((hch3.drew).trans (Chg.of_below (S := fun _ => False) hb5) (fun _ _ h => h.elim)) ⟨rfl, vi6, hE6, hC6, hF6⟩
    · have t1 : (id != s.id) = true := by simpa using q1
      have HE : Hid (inS s b now = s) := by show _ = _; rw [HE.out]; unfold stepS; rw [if_pos (.inl q1)]
      clear q1
      go_wp2
      go_quiet (fail)
      go_wp2
      go_end0
      rw [HE.out]
      exact TakePost.same (hE.drewN _) (hch2.drewN _)
end Go.Proofs.Ytoeipgbnjcgbjaa
