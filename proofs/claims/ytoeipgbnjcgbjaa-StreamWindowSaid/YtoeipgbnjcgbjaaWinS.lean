/- StreamWindow's closure 'sent': what an open end with nothing but data tells, read by Parse. -/
import Derived.Test.YtoeipgbnjcgbjaaWinM
import Derived.Test.YtoeipgbnjcgbjaaPAll
import Derived.Test.YtoeipgbnjcgbjaaEnd9
import Derived.Test.YtoeipgbnjcgbjaaStrAwk
namespace Go.Proofs.Ytoeipgbnjcgbjaa
open Go.RowKit
set_option linter.unusedVariables false

def runL (s : En) (now : Int) : List (List Int) × Nat := dataL (sends1 s now) s.out.length (sends1 s now).next.toNat
def firstOf (s : En) (now : Int) : Int := if (runL s now).1.length = 0 then -1 else (sends1 s now).next
def endOf (s : En) (now : Int) : Int := if (runL s now).1.length = 0 then 0 else ((runL s now).2 : Int)
def SentPost (g : Nat) (s : En) (vo vi : Value) (now : Int) (w : World) (e : Ending) (w' : World) : Prop :=
  e = .returned (.tuple #[.int .i64 (firstOf s now), .int .i64 (endOf s now), .bool true]) ∧ EnAt g w' (outS s now).2 vo vi ∧ Chg (fun k => k = g) w w'
def firstAt (p0 : Int) (k : Nat) : Int := if k = 0 then -1 else p0
def endAt (s : En) (p0 : Nat) (k : Nat) : Int := if k = 0 then 0 else (posAt s p0 k : Int)

set_option maxRecDepth 100000 in
set_option maxHeartbeats 4000000 in
theorem sent_any (g cb : Nat) (s : En) (vo vi : Value) (now : Int) (w : World) (h : EnAt g w s vo vi) (hok : EnOk s) (hpl : Plain s) (hnow : (Lit.int .i64 now).wf = true) (hcb : w.cell? ⟨cb, 0, none⟩ = some (.pointer (some ⟨g, 0, none⟩))) :
    Calls Try.prog 24 #[.int .i64 now, .pointer (some ⟨cb, 0, none⟩)] w (SentPost g s vo vi now w) := by
  have hok1 := sends1_ok s now hok hnow
  have hO := out_any g s vo vi now w h hok hnow
  have hL : (outS s now).1 = (runL s now).1 := by rw [outS_plain s now hpl]; rfl
  have hne := hok1.una
  have hnx := hok1.next
  have hol := hok1.outl
  have hlen : (sends1 s now).out.length = s.out.length := by rw [(sends1_out s now).1]
  have hg := h.blk
  obtain ⟨p0, hp0⟩ : ∃ p0 : Nat, (sends1 s now).next = p0 := ⟨(sends1 s now).next.toNat, by omega⟩
  have hrun : runL s now = dataL (sends1 s now) s.out.length p0 := by unfold runL; rw [hp0]; rfl
  have hget : ∀ k, k < (runL s now).1.length → ((runL s now).1.getD k [] = dataSeg (sends1 s now) (posAt (sends1 s now) p0 k) ∧ posAt (sends1 s now) p0 k < (sends1 s now).out.length) := fun k hk => by
    rw [hrun] at hk ⊢
    have := dataL_get (sends1 s now) s.out.length p0 k hk
    exact ⟨this.1, this.2.1⟩
  have hend : (runL s now).2 = posAt (sends1 s now) p0 (runL s now).1.length := by rw [hrun]; exact dataL_pos _ _ _
  have HF : Hid (firstOf s now = firstAt p0 (runL s now).1.length) := by show _ = _; unfold firstOf firstAt; rw [hp0]
  have HE : Hid (endOf s now = endAt (sends1 s now) p0 (runL s now).1.length) := by show _ = _; unfold endOf endAt; rw [hend]
  unfold OutPost at hO
  rw [hL] at hO
  clear hrun hend hL hp0 hne hnx hlen hpl hok hnow h
  unfold SentPost
  generalize (outS s now).2 = s2 at *
  generalize (runL s now).1 = D at *
  generalize sends1 s now = s1 at *
  generalize firstOf s now = F0 at *
  generalize endOf s now = E0 at *
  have HGET := Lib.hid hget
  clear hget
  go_enter Try.func24, Try.ntmps24
  go_wp2_with fail
  refine hO.mono ?_
  rintro e w2 ⟨A2, rfl, hOut, hE2, hC2⟩
  have hDl : D.length ≤ 9223372036854775807 := hOut.cap.2
  clear hO hcb
  go_wp2
  go_loopw [6, 7, 9] (fun u6 u7 u9 wr => ∃ k : Nat, k ≤ D.length ∧ u9 = .int .i64 k ∧ u6 = .int .i64 (firstAt p0 k) ∧ u7 = .int .i64 (endAt s1 p0 k) ∧ Below w2.heap.size w2 wr) (fun _ _ u9 _ => D.length - (intOf u9).toNat)
  case atStart => exact ⟨0, by omega, rfl, rfl, rfl, Below.refl _ _⟩
  case round =>
    obtain ⟨k, hk, rfl, rfl, rfl, hB⟩ := hrel
    by_cases hlt : k < D.length
    · have hg1 := HGET.out k hlt
      obtain ⟨pk, hpk⟩ : ∃ pk, pk = posAt s1 p0 k := ⟨_, rfl⟩
      obtain ⟨m, hm⟩ : ∃ m, m = pieceN s1 (posAt s1 p0 k) := ⟨_, rfl⟩
      have hmb : 1 ≤ m ∧ m ≤ 400 ∧ m ≤ s1.out.length - posAt s1 p0 k := by unfold pieceN at hm; omega
      obtain ⟨b, o, A', hA', _, hbl, hcell, hown⟩ := hOut.elem k hlt
      obtain ⟨q, hq⟩ : ∃ q : Sg, q = ⟨3, s1.id, pk, 0, (s1.out.drop pk).take m⟩ := ⟨_, rfl⟩
      have hql : q.data.length = m := by rw [hq]; simp only []; rw [List.length_take, List.length_drop]; omega
      have hqb : Bytes q.data := by rw [hq]; exact fun x hx => hok1.outb x (List.mem_of_mem_drop (List.mem_of_mem_take hx))
      have hseg : D.getD k [] = segL q := by rw [hg1.1, hq, hpk, hm]; rfl
      have hgood : goodSg q := by rw [hq]; exact ⟨by simp, by simp, hok1.id, ⟨by simp, by simp only []; omega⟩, by simp, by rw [← hq, hql]; omega⟩
      have hps := parse_seg q hgood hqb
      have hLl : (segL q).length ≤ 419 := by
        have h1 := segL_len q
        have h2 : (q.data.take 400).length ≤ 400 := List.length_take_le _ _
        omega
      rw [hseg] at hcell hown
      obtain ⟨L, hLq⟩ : ∃ L, L = segL q := ⟨_, rfl⟩
      rw [← hLq] at hcell hown hps hLl
      have hLb : Bytes L := hLq ▸ segL_ok q hqb
      have hcr := (hB.cell (p := ⟨b, o + k, none⟩) hbl).trans hcell
      have hIr := (hown.ints).below hB
      have hP := parse_yes A' L.length L.length L wr hIr rfl hLb (Nat.le_refl _) (by omega) hps.1
      unfold ParseYes at hP
      rw [hps.2] at hP
      have h3 : q.t = 3 := by rw [hq]
      have h4 : q.seq = pk := by rw [hq]
      obtain ⟨qt, qid, qseq, qack, qdata⟩ := q
      simp only at h3 h4 hql
      subst h3; subst h4; subst hql
      simp only [segV] at hP
      have hb1 : (k : Int) < D.length := by omega
      have hpl : pk ≤ 1048576 := by omega
      have hN : pk + qdata.length = posAt s1 p0 (k + 1) := by rw [posAt, ← hm, ← hpk]
      have HN := Lib.hid hN
      have HPK := Lib.hid hpk
      subst hA'
      clear hg1 hm hq hqb hseg hgood hps hLq hcell hown hIr hN hpk hLl
      have d1 : decide ((400 : Int) < (qdata.length : Int)) = false := decide_eq_false (by omega)
      have d1' : decide (400 < qdata.length) = false := decide_eq_false (by omega)
      have d2 : decide ((qdata.length : Int) < 1) = false := decide_eq_false (by omega)
      have d2' : decide (qdata.length < 1) = false := decide_eq_false (by omega)
      go_wp2_with fail
      refine hP.mono ?_
      rintro e w3 ⟨A3, rfl, _, hb3⟩
      have hC3 := cel_seg w3 ⟨3, qid, pk, qack, qdata⟩ A3 qdata.length
      have hB3 : Below w2.heap.size w2 (w3.alloc (.cells #[.int .i64 3, .int .i64 qid, .int .i64 pk, .int .i64 qack, .slice A3 qdata.length qdata.length] 24)) := (hB.trans (hb3.mono hB.size)).alloc (Nat.le_trans hB.size hb3.size) _
      clear hP hb3 hcr
      go_upto_region 7 with (fail)
      generalize (w3.alloc (.cells #[.int .i64 3, .int .i64 qid, .int .i64 pk, .int .i64 qack, .slice A3 qdata.length qdata.length] 24)) = w4 at *
      have k0 : w4.cell? ⟨w3.heap.size, 0, none⟩ = some (.int .i64 3) := hC3.cell 0 (by decide)
      have k2 : w4.cell? ⟨w3.heap.size, 2, none⟩ = some (.int .i64 pk) := hC3.cell 2 (by decide)
      have k4 : w4.cell? ⟨w3.heap.size, 4, none⟩ = some (.slice A3 qdata.length qdata.length) := hC3.cell 4 (by decide)
      clear hC3 hB
      have hpl0 : (0 : Int) ≤ pk := by omega
      have HRel : ∀ k' : Nat, k' = k + 1 → (Value.int .i64 (pk + (qdata.length : Int)) = Value.int .i64 (endAt s1 p0 k')) := by
        rintro k' rfl
        have := HN.out
        unfold endAt
        rw [if_neg (by omega), ← this]
        rw [Int.natCast_add]
      have HREL := Lib.hid HRel
      clear HRel
      by_cases hk0 : k = 0
      · subst hk0
        have hpp : pk = p0 := HPK.out
        have HPP := Lib.hid hpp
        have e0 : firstAt (p0 : Int) 0 = -1 := rfl
        clear hpp HPK HN HGET
        go_wp2
        go_roundw
        case rel => exact ⟨1, by omega, by go_num, by rw [HPP.out]; rfl, HREL.out 1 rfl, hB3⟩
        case measure => simp [intOf]; omega
      · have e0 : firstAt (p0 : Int) k = p0 := if_neg hk0
        have e1 : firstAt (p0 : Int) (k + 1) = p0 := if_neg (by omega)
        have E1 := Lib.hid e1
        have E0' := Lib.hid e0
        have hp0 : (0 : Int) ≤ p0 := by omega
        have d0 : decide ((p0 : Int) < 0) = false := decide_eq_false (by omega)
        clear e1 hk0 HPK HN HGET
        go_wp2
        go_roundw
        case rel => exact ⟨k + 1, by omega, by go_num, by first | rw [E1.out, E0'.out] | rw [E1.out], HREL.out _ rfl, hB3⟩
        case measure => simp [intOf]; omega
    · obtain rfl : k = D.length := by omega
      have hC := hC2.trans (Chg.of_below (S := fun _ => False) hB) (fun _ _ h => h.elim)
      have hE := hE2.below hB
      clear hlt hOut HGET hC2 hE2 hB
      go_wp2
      go_ret3
      exact ⟨by rw [HF.out, HE.out]; rfl, hE, hC⟩
end Go.Proofs.Ytoeipgbnjcgbjaa
