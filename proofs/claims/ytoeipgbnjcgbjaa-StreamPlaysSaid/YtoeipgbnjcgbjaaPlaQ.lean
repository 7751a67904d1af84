/- The document's end: Close, Take, sent, acked, late, Done, Idle. -/
import Derived.Test.YtoeipgbnjcgbjaaPlaR
import Derived.Deep.QuietTactic
import Derived.BigQuiet
namespace Go.Proofs.Ytoeipgbnjcgbjaa
open Go.RowKit
set_option linter.unusedVariables false
set_option linter.unusedSimpArgs false

set_option maxRecDepth 100000 in
theorem rclose_any (g : Nat) (t : En) (w : World) (h : RefAt g w t) :
    Calls Try.prog 32 #[.pointer (some ⟨g, 0, none⟩)] w (RPost g w (.int .i64 (closeS t).1) (closeS t).2) := by
  have c1 := h.c1
  have c3 := h.c3
  have f3 := h.fr 3
  have H := Lib.hid h
  clear h
  by_cases h4 : t.st = 4
  · have d1 : (t.st == 4) = true := by simpa using h4
    have hw : closeS t = (81, t) := by unfold closeS; rw [if_pos h4]
    have HH := Lib.hid hw
    clear h4 hw
    go_enter Try.func32, Try.ntmps32
    go_wp2
    go_ret
    rw [RPost, HH.out]
    exact ⟨rfl, H.out, Chg.refl _ _⟩
  · have d1 : (t.st == 4) = false := by simpa using h4
    have hw : closeS t = (0, { t with closed := true }) := by unfold closeS; rw [if_neg h4]
    have HH := Lib.hid hw
    clear h4 hw
    go_enter Try.func32, Try.ntmps32
    go_wp2
    go_ret
    rw [RPost, HH.out]
    exact ⟨rfl, H.out.set 3 _ _ (enF_cases rfl rfl rfl rfl rfl rfl rfl rfl rfl rfl rfl rfl rfl rfl), (Chg.refl (fun k => k = g) w).setCell (.inl rfl) _⟩
set_option maxRecDepth 100000 in
set_option maxHeartbeats 1000000 in
theorem rtake_any (g : Nat) (t : En) (w : World) (h : RefAt g w t) (ho : EnOk t) :
    Calls Try.prog 33 #[.pointer (some ⟨g, 0, none⟩)] w (RPost g w (.string (strOfNums (readS t).1)) (readS t).2) := by
  have c10 := h.c10
  have c11 := h.c11
  have f11 := h.fr 11
  have H := Lib.hid h
  have sz := strOfNums_size' t.inn
  obtain ⟨r, hr⟩ : ∃ r : Nat, t.read = r := ⟨t.read.toNat, by have := ho.read; omega⟩
  obtain ⟨n, hn⟩ : ∃ n, t.inn.length = n := ⟨_, rfl⟩
  have hrn : r ≤ n := by have := ho.read; omega
  have hnl : n ≤ 1048576 := by have := ho.innl; omega
  have hex : (strOfNums t.inn).extract r n = strOfNums (readS t).1 := by
    rw [strN_extract, ← hn, List.take_length]
    unfold readS
    rw [hr]; rfl
  rw [hr] at c11
  rw [hn] at sz
  have HEX := Lib.hid hex
  have HN := Lib.hid hn
  have r0 : (0 : Int) ≤ (r : Int) := by omega
  have r1 : (r : Int) ≤ (n : Int) := by omega
  clear h ho hex hr hn
  go_enter Try.func33, Try.ntmps33
  go_wp2
  go_quiet (fail)
  go_wp2
  go_ret
  refine ⟨by rw [← HEX.out]; rfl, (H.out.drewN nq).set 11 _ _ ?_, ((Chg.refl (fun k => k = g) w).drewN nq).setCell (.inl rfl) _⟩
  rw [← HN.out]
  exact enF_cases rfl rfl rfl rfl rfl rfl rfl rfl rfl rfl rfl rfl rfl rfl
set_option maxRecDepth 100000 in
theorem rsent_any (g : Nat) (t : En) (w : World) (h : RefAt g w t) (ho : EnOk t) :
    Calls Try.prog 62 #[.pointer (some ⟨g, 0, none⟩)] w fun e w' => e = .returned (.int .i64 (mostS t)) ∧ w = w' := by
  have c5 := h.c5
  have c6 := h.c6
  have h1 := ho.una
  have h2 := ho.next
  have h3 := ho.outl
  have hw : IntKind.i64.wrap (t.next + 1) = t.next + 1 := IntWalk.i64_in _ (by omega)
  cases he : t.endSent
  · rw [he] at c6
    have hm : mostS t = t.next := by unfold mostS; rw [he]; rfl
    have HM := Lib.hid hm
    clear hm h ho
    go_enter Try.func62, Try.ntmps62
    go_wp2
    go_ret
    exact ⟨by rw [HM.out]; rfl, rfl⟩
  · rw [he] at c6
    have hm : mostS t = t.next + 1 := by unfold mostS; rw [he]; rfl
    have HM := Lib.hid hm
    clear hm h ho
    go_enter Try.func62, Try.ntmps62
    go_wp2
    go_ret
    exact ⟨by rw [HM.out]; rfl, rfl⟩
set_option maxRecDepth 100000 in
theorem racked_any (g : Nat) (t : En) (w : World) (h : RefAt g w t) (ho : EnOk t) :
    Calls Try.prog 63 #[.pointer (some ⟨g, 0, none⟩)] w fun e w' => e = .returned (.int .i64 (ackedV t)) ∧ w = w' := by
  have c4 := h.c4
  have c7 := h.c7
  have h1 := ho.una
  have h2 := ho.next
  have h3 := ho.outl
  have hw : IntKind.i64.wrap (t.una + 1) = t.una + 1 := IntWalk.i64_in _ (by omega)
  cases he : t.endAcked
  · rw [he] at c7
    have hm : ackedV t = t.una := by unfold ackedV; rw [he]; rfl
    have HM := Lib.hid hm
    clear hm h ho
    go_enter Try.func63, Try.ntmps63
    go_wp2
    go_ret
    exact ⟨by rw [HM.out]; rfl, rfl⟩
  · rw [he] at c7
    have hm : ackedV t = t.una + 1 := by unfold ackedV; rw [he]; rfl
    have HM := Lib.hid hm
    clear hm h ho
    go_enter Try.func63, Try.ntmps63
    go_wp2
    go_ret
    exact ⟨by rw [HM.out]; rfl, rfl⟩
/-- Is it late? For both. -/
theorem late_due (t : En) (now : Int) (ha : (Lit.int .i64 t.at_).wf = true) (hn : (Lit.int .i64 now).wf = true) : dueB t now = (decide (t.at_ ≤ now) && decide ((8 : Int) ≤ now - t.at_)) := by
  simp [Lit.wf, IntKind.min, IntKind.max, IntKind.bits, IntKind.signed] at ha hn
  unfold dueB
  rw [Bool.eq_iff_iff]
  simp only [Bool.and_eq_true, decide_eq_true_eq]
  omega
set_option maxRecDepth 100000 in
set_option maxHeartbeats 1000000 in
theorem late_any (g : Nat) (t : En) (now : Int) (w : World) (h : RefAt g w t) (ha : (Lit.int .i64 t.at_).wf = true) (hn : (Lit.int .i64 now).wf = true) :
    Calls Try.prog 60 #[.pointer (some ⟨g, 0, none⟩), .int .i64 now] w fun e w' => e = .returned (.bool (dueB t now)) ∧ w = w' := by
  have c8 := h.c8
  have hd := late_due t now ha hn
  have hab : -9223372036854775808 ≤ t.at_ ∧ t.at_ ≤ 9223372036854775807 := by simp [Lit.wf, IntKind.min, IntKind.max, IntKind.bits, IntKind.signed] at ha; omega
  have hnb : -9223372036854775808 ≤ now ∧ now ≤ 9223372036854775807 := by simp [Lit.wf, IntKind.min, IntKind.max, IntKind.bits, IntKind.signed] at hn; omega
  obtain ⟨hab0, hab1⟩ := hab
  obtain ⟨hnb0, hnb1⟩ := hnb
  generalize t.at_ = a at *
  have HD := Lib.hid hd
  clear h hd ha hn
  by_cases h1 : a ≤ now
  · have d1 : decide (a ≤ now) = true := decide_eq_true h1
    have hs : IntKind.u64.wrap (IntKind.u64.wrap now - IntKind.u64.wrap a) = now - a := by
      show (now % 18446744073709551616 - a % 18446744073709551616) % 18446744073709551616 = now - a
      omega
    by_cases h2 : (8 : Int) ≤ now - a
    · have d2 : decide ((8 : Int) ≤ now - a) = true := decide_eq_true h2
      go_enter Try.func60, Try.ntmps60
      go_wp2
      go_ret
      exact ⟨by rw [HD.out, d1, d2]; rfl, rfl⟩
    · have d2 : decide ((8 : Int) ≤ now - a) = false := decide_eq_false h2
      go_enter Try.func60, Try.ntmps60
      go_wp2
      go_ret
      exact ⟨by rw [HD.out, d1, d2]; rfl, rfl⟩
  · have d1 : decide (a ≤ now) = false := decide_eq_false h1
    go_enter Try.func60, Try.ntmps60
    go_wp2
    go_ret
    exact ⟨by rw [HD.out, d1]; rfl, rfl⟩
set_option maxRecDepth 100000 in
theorem rdone_any (g : Nat) (t : En) (w : World) (h : RefAt g w t) :
    Calls Try.prog 65 #[.pointer (some ⟨g, 0, none⟩)] w fun e w' => e = .returned (.bool (doneB t)) ∧ w = w' := by
  have c7 := h.c7
  have c12 := h.c12
  have hd : doneB t = (t.endAcked && t.other) := rfl
  have HD := Lib.hid hd
  clear h hd
  cases he : t.endAcked
  · rw [he] at c7
    go_enter Try.func65, Try.ntmps65
    go_wp2
    go_ret
    exact ⟨by rw [HD.out, he]; rfl, rfl⟩
  · rw [he] at c7
    go_enter Try.func65, Try.ntmps65
    go_wp2
    go_ret
    exact ⟨by rw [HD.out, he]; rfl, rfl⟩
set_option maxRecDepth 100000 in
set_option maxHeartbeats 4000000 in
theorem ridle_any (g : Nat) (t : En) (w : World) (h : RefAt g w t) :
    Calls Try.prog 66 #[.pointer (some ⟨g, 0, none⟩)] w fun e w' => e = .returned (.bool (rIdleB t)) ∧ ∃ m, w' = w.drewN m := by
  have c1 := h.c1
  have c2 := h.c2
  have c3 := h.c3
  have c4 := h.c4
  have c7 := h.c7
  have c13 := h.c13
  have sz := strOfNums_size' t.out
  have hd : rIdleB t = (decide (t.st = 4) || (!decide (t.st = 1) && !t.owes && decide (t.una = t.out.length) && (!t.closed || t.endAcked))) := rfl
  have HD := Lib.hid hd
  clear h hd
  obtain ⟨id, st, dialed, out, una, next, at_, closed, endSent, endAcked, inn, read, other, owes⟩ := t
  simp only at *
  by_cases h4 : st = 4
  · have d1 : (st == 4) = true := by simpa using h4
    have e1 : decide (st = 4) = true := decide_eq_true h4
    clear h4
    go_enter Try.func66, Try.ntmps66
    go_wp2
    go_quiet (fail)
    go_wp2
    go_ret
    exact ⟨by rw [HD.out, e1]; rfl, nq, rfl⟩
  · have d1 : (st == 4) = false := by simpa using h4
    have e1 : decide (st = 4) = false := decide_eq_false h4
    by_cases h1 : st = 1
    · have d2 : (st != 1) = false := by simpa using h1
      have e2 : decide (st = 1) = true := decide_eq_true h1
      clear h4 h1
      go_enter Try.func66, Try.ntmps66
      go_wp2
      go_quiet (fail)
      go_wp2
      go_ret
      exact ⟨by rw [HD.out, e1, e2]; rfl, nq, rfl⟩
    · have d2 : (st != 1) = true := by simpa using h1
      have e2 : decide (st = 1) = false := decide_eq_false h1
      clear h4 h1
      cases owes
      · by_cases hu : una = (out.length : Int)
        · have d3 : (una == (out.length : Int)) = true := by simpa using hu
          have e3 : decide (una = (out.length : Int)) = true := decide_eq_true hu
          clear hu
          cases closed
          · go_enter Try.func66, Try.ntmps66
            go_wp2
            go_quiet (fail)
            go_wp2
            go_ret
            exact ⟨by rw [HD.out, e1, e2, e3]; rfl, nq, rfl⟩
          · go_enter Try.func66, Try.ntmps66
            go_wp2
            go_quiet (fail)
            go_wp2
            go_ret
            exact ⟨by rw [HD.out, e1, e2, e3]; cases endAcked <;> rfl, nq, rfl⟩
        · have d3 : (una == (out.length : Int)) = false := by simpa using hu
          have e3 : decide (una = (out.length : Int)) = false := decide_eq_false hu
          clear hu
          go_enter Try.func66, Try.ntmps66
          go_wp2
          go_quiet (fail)
          go_wp2
          go_ret
          exact ⟨by rw [HD.out, e1, e2, e3]; rfl, nq, rfl⟩
      · go_enter Try.func66, Try.ntmps66
        go_wp2
        go_quiet (fail)
        go_wp2
        go_ret
        exact ⟨by rw [HD.out, e1, e2]; rfl, nq, rfl⟩
end Go.Proofs.Ytoeipgbnjcgbjaa
