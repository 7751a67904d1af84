/- The document's star, may, Text. -/
import Derived.Test.YtbaokenjkbabnaaDoorNmI
namespace Go.Proofs.YtbaokenjkbabnaaDoor
open Go.RowKit
set_option linter.unusedVariables false

/-- The place of the one star; -1: none; -2: more than one. -/
def starL (l : List UInt8) : Int := if l.count 42 = 0 then -1 else if l.count 42 = 1 then (idx l 42 : Int) else -2
def starG (l : List UInt8) (k : Nat) : Int := if (l.take k).count 42 = 0 then -1 else (idx l 42 : Int)
theorem count_take_succ (l : List UInt8) (k : Nat) (c : UInt8) (h : l[k]? = some c) : (l.take (k + 1)).count 42 = (l.take k).count 42 + if c = 42 then 1 else 0 := by
  have hl := (List.getElem?_eq_some_iff.1 h).1
  rw [List.take_succ_eq_append_getElem hl, List.count_append, (List.getElem?_eq_some_iff.1 h).2]
  congr 1
  by_cases e : c = 42
  · subst e; rfl
  · rw [if_neg e, List.count_singleton, if_neg (by simpa using e)]
theorem count_take_le (l : List UInt8) (k : Nat) : (l.take k).count 42 ≤ l.count 42 := (List.take_sublist k l).count_le 42
theorem idx_first (l : List UInt8) (k : Nat) (h : l[k]? = some 42) (h0 : (l.take k).count 42 = 0) : idx l 42 = k := by
  rcases idx_cases 42 l with ⟨h1, h2⟩ | ⟨i, h1, h2, h3, h4⟩
  · have hl := (List.getElem?_eq_some_iff.1 h).1
    exact absurd (by rw [← (List.getElem?_eq_some_iff.1 h).2]; exact List.getElem_mem hl) h2
  · unfold idx
    rw [h1, Int.toNat_natCast]
    have hl := (List.getElem?_eq_some_iff.1 h).1
    rcases Nat.lt_trichotomy i k with hlt | rfl | hgt
    · exfalso
      rw [List.count_eq_zero] at h0
      apply h0
      rw [List.mem_iff_getElem?]
      exact ⟨i, by rw [List.getElem?_take, if_pos hlt]; exact h3⟩
    · rfl
    · exfalso
      apply h4
      rw [List.mem_iff_getElem?]
      exact ⟨k, by rw [List.getElem?_take, if_pos hgt]; exact h⟩
set_option maxRecDepth 100000 in
set_option maxHeartbeats 1000000 in
theorem star_any (s : ByteArray) (w : World) (hs : s.size ≤ 140737488355328) :
    Calls Tryd.prog 35 #[.string s] w fun e w' => e = .returned (.int .i64 (starL s.data.toList)) ∧ w = w' := by
  obtain ⟨R, hR⟩ : ∃ R, starL s.data.toList = R := ⟨_, rfl⟩
  rw [hR]
  have HR := Lib.hid hR
  clear hR
  go_enter Tryd.func35, Tryd.ntmps35
  go_wp2
  go_loop [3, 4] (fun v i => ∃ k : Nat, k ≤ s.size ∧ i = .int .i64 k ∧ v = .int .i64 (starG s.data.toList k) ∧ (s.data.toList.take k).count 42 ≤ 1) (fun _ i => s.size - (intOf i).toNat)
  case atStart => exact ⟨0, Nat.zero_le _, rfl, rfl, by simp⟩
  case round =>
    obtain ⟨k, hk, rfl, rfl, hc⟩ := hrel
    by_cases hlt : k < s.size
    · have d1 : decide (k < s.size) = true := decide_eq_true hlt
      have k0 : (0 : Int) ≤ (k : Int) := by omega
      have k1 : (k : Int) < (s.size : Int) := by omega
      have hgs := get_toList s k hlt
      have hg : s.get! k = s[k] := by have := get_at s k hlt; rwa [Nat.add_zero] at this
      rw [hg] at hgs
      have hct := count_take_succ s.data.toList k s[k] hgs
      by_cases h42 : s[k] = 42
      · have q1 : ((s[k].toNat : Int) == 42) = true := by rw [h42]; rfl
        rw [if_pos h42] at hct
        by_cases h0 : (s.data.toList.take k).count 42 = 0
        · have q2 : decide ((0 : Int) ≤ starG s.data.toList k) = false := by
            unfold starG; rw [if_pos h0]; rfl
          have hn : starG s.data.toList (k + 1) = (k : Int) := by
            unfold starG
            rw [if_neg (by omega), idx_first s.data.toList k (by rw [hgs, h42]) h0]
          have HN := Lib.hid hn
          have hc' : (s.data.toList.take (k + 1)).count 42 ≤ 1 := by omega
          have HC := Lib.hid hc'
          clear hct hc hc' hn h0 hgs hg h42
          go_wp2
          go_round
          case rel => exact ⟨k + 1, by omega, by go_num, by rw [HN.out], HC.out⟩
          case measure => simp [intOf]; omega
        · have q2 : decide ((0 : Int) ≤ starG s.data.toList k) = true := by
            unfold starG; rw [if_neg h0]; exact decide_eq_true (by omega)
          have hr : R = -2 := by
            rw [← HR.out]
            unfold starL
            have := count_take_le s.data.toList (k + 1)
            rw [if_neg (by omega), if_neg (by omega)]
          have HN := Lib.hid hr
          clear hct hc hr h0 hgs hg h42
          go_wp2
          go_ret
          rw [HN.out]
          exact ⟨rfl, rfl⟩
      · have q1 : ((s[k].toNat : Int) == 42) = false := by
          rw [beq_eq_false_iff_ne]; intro h
          exact h42 (UInt8.toNat_inj.1 (by show s[k].toNat = 42; omega))
        rw [if_neg h42] at hct
        have hct2 : (s.data.toList.take (k + 1)).count 42 = (s.data.toList.take k).count 42 := by omega
        have hn : starG s.data.toList k = starG s.data.toList (k + 1) := by unfold starG; rw [hct2]
        have HN := Lib.hid hn
        have hc' : (s.data.toList.take (k + 1)).count 42 ≤ 1 := by omega
        have HC := Lib.hid hc'
        clear hct hct2 hc hc' hn hgs hg h42
        go_wp2
        go_round
        case rel => exact ⟨k + 1, by omega, by go_num, by rw [HN.out], HC.out⟩
        case measure => simp [intOf]; omega
    · have d1 : decide (k < s.size) = false := decide_eq_false hlt
      have hr : R = starG s.data.toList k := by
        rw [← HR.out]
        obtain rfl : k = s.size := by omega
        rw [Lib.size_eq, List.take_length] at hc
        unfold starL starG
        rw [Lib.size_eq, List.take_length]
        by_cases h0 : s.data.toList.count 42 = 0
        · rw [if_pos h0, if_pos h0]
        · rw [if_neg h0, if_neg h0, if_pos (by omega)]
      have HN := Lib.hid hr
      clear hr hc
      go_wp2
      go_ret
      rw [HN.out]
      exact ⟨rfl, rfl⟩
/-- What the document's may tells: as the program's side, but for a side of more than one star. -/
theorem idx_lt {l : List UInt8} (h : l.count 42 = 1) : idx l 42 < l.length := by
  obtain ⟨i, h1, h2, h3⟩ := one_idx h
  rw [h2]; exact h3
set_option maxRecDepth 100000 in
set_option maxHeartbeats 1000000 in
theorem may_any (s : ByteArray) (w : World) (hs : s.size ≤ 140737488353000) :
    Calls Tryd.prog 34 #[.string s] w fun e w' => e = .returned (.tuple #[.bool (sideL s.data.toList).1, .bool (sideL s.data.toList).2]) ∧ Below w.heap.size w w' := by
  have hst := star_any s w (by omega)
  by_cases h0 : s.data.toList.count 42 = 0
  · have e0 : starL s.data.toList = -1 := by unfold starL; rw [if_pos h0]
    have e1 : (sideL s.data.toList).1 = validN s.data.toList := by unfold sideL; rw [if_neg (by omega), decide_eq_true (by omega), Bool.true_and]
    have e2 : (sideL s.data.toList).2 = false := by unfold sideL; exact decide_eq_false (by omega)
    rw [e0] at hst
    rw [e1, e2]
    have hva : Calls Tryd.prog 12 #[.string s] w fun e w' => e = .returned (.bool (validN s.data.toList)) ∧ Below w.heap.size w w' := validR_any s w (by omega)
    clear e0 e1 e2 h0
    go_enter Tryd.func34, Tryd.ntmps34
    go_wp2_with fail
    refine hst.mono ?_
    rintro e w1 ⟨rfl, rfl⟩
    go_wp2_with fail
    refine hva.mono ?_
    rintro e w2 ⟨rfl, hb⟩
    go_wp2
    go_ret2
    exact ⟨rfl, hb⟩
  · by_cases h1 : s.data.toList.count 42 = 1
    · have e0 : starL s.data.toList = (idx s.data.toList 42 : Int) := by unfold starL; rw [if_neg h0, if_pos h1]
      have e1 : (sideL s.data.toList).1 = validN (subst s.data.toList [120]) := by unfold sideL; rw [if_pos h1, decide_eq_true (by omega), Bool.true_and]
      have e2 : (sideL s.data.toList).2 = true := by unfold sideL; exact decide_eq_true h1
      rw [e0] at hst
      rw [e1, e2]
      have hil := idx_lt h1
      rw [← Lib.size_eq] at hil
      have hsz := subst_len s.data.toList [120] h0
      rw [← Lib.size_eq] at hsz
      simp at hsz
      have hcat : s.extract 0 (idx s.data.toList 42) ++ ⟨#[120]⟩ ++ s.extract (idx s.data.toList 42 + 1) s.size = mk (subst s.data.toList [120]) := by
        rw [mk_ext0, mk_extE, show (⟨#[120]⟩ : ByteArray) = mk [120] from rfl, mk_app, mk_app]
        rfl
      have hva : ∀ w', Calls Tryd.prog 12 #[.string (mk (subst s.data.toList [120]))] w' fun e w'' => e = .returned (.bool (validN (subst s.data.toList [120]))) ∧ Below w'.heap.size w' w'' := fun w' => validR_any (mk (subst s.data.toList [120])) w' (by rw [mk_size]; omega)
      rw [← hcat] at hva
      clear e0 e1 e2 h0 h1 hsz hcat
      generalize validN (subst s.data.toList [120]) = V at *
      generalize idx s.data.toList 42 = i at *
      have c0 : (0 : Int) ≤ (i : Int) := by omega
      have c1 : (i : Int) ≤ (s.size : Int) := by omega
      have c2 : (0 : Int) ≤ (i : Int) + 1 := by omega
      have c3 : (i : Int) + 1 ≤ (s.size : Int) := by omega
      have c4 : IntKind.i64.wrap ((i : Int) + 1) = (i : Int) + 1 := IntWalk.i64_in _ (by omega)
      have c5 : ((i : Int) == -2) = false := by rw [beq_eq_false_iff_ne]; omega
      have c6 : decide ((i : Int) < 0) = false := decide_eq_false (by omega)
      have HVA := Lib.hid hva
      clear hva
      go_enter Tryd.func34, Tryd.ntmps34
      go_wp2_with fail
      refine hst.mono ?_
      rintro e w1 ⟨rfl, rfl⟩
      go_wp2
      go_region_with (go_at_call 12; refine (HVA.out _).mono ?_; rintro e w2 ⟨rfl, hb⟩)
      all_goals
        go_wp2
        go_ret2
        exact ⟨rfl, ((Below.refl _ _).drew).trans hb⟩
    · have e0 : starL s.data.toList = -2 := by unfold starL; rw [if_neg h0, if_neg h1]
      have e1 : (sideL s.data.toList).1 = false := by unfold sideL; rw [decide_eq_false (by omega), Bool.false_and]
      have e2 : (sideL s.data.toList).2 = false := by unfold sideL; exact decide_eq_false h1
      rw [e0] at hst
      rw [e1, e2]
      clear e0 e1 e2 h0 h1
      go_enter Tryd.func34, Tryd.ntmps34
      go_wp2_with fail
      refine hst.mono ?_
      rintro e w1 ⟨rfl, rfl⟩
      go_wp2
      go_ret2
      exact ⟨rfl, Below.refl _ _⟩
theorem info_specR : (Tryd.prog.info? 37).map (·.size) = some 3 := by kernel_rfl
set_option maxRecDepth 100000 in
theorem textR_any (p : Sp) (w : World) (hsl : p.src.length ≤ 1000) (hdl : p.dst.length ≤ 1000) :
    Calls Tryd.prog 19 #[spV p] w fun e w' => e = .returned (.string (mk (textL p))) ∧ Below w.heap.size w w' := by
  obtain ⟨f, src, dst⟩ := p
  unfold spV textL
  simp only at hsl hdl ⊢
  have e1 : mk src ++ ⟨#[58]⟩ ++ mk dst = mk (src ++ ([58] ++ dst)) := by
    have := mk_app src [58]
    rw [show mk src ++ ⟨#[58]⟩ = mk (src ++ [58]) from this, mk_app, List.append_assoc]
  have e2 : (⟨#[43]⟩ : ByteArray) ++ (mk src ++ ⟨#[58]⟩ ++ mk dst) = mk ([43] ++ (src ++ ([58] ++ dst))) := by rw [e1]; exact mk_app [43] _
  have z1 : (mk src).size ≤ 1000 := by rw [mk_size]; exact hsl
  have z2 : (mk dst).size ≤ 1000 := by rw [mk_size]; exact hdl
  have E1 := Lib.hid e1
  have E2 := Lib.hid e2
  clear e1 e2 hsl hdl
  cases f
  · go_enter Tryd.func19, Tryd.ntmps19
    go_wp2
    go_ret
    exact ⟨congrArg (fun s => Ending.returned (Value.string s)) E1.out, (Below.refl _ _).alloc (Nat.le_refl _) _⟩
  · go_enter Tryd.func19, Tryd.ntmps19
    go_wp2
    go_ret
    exact ⟨congrArg (fun s => Ending.returned (Value.string s)) E2.out, (Below.refl _ _).alloc (Nat.le_refl _) _⟩
end Go.Proofs.YtbaokenjkbabnaaDoor
