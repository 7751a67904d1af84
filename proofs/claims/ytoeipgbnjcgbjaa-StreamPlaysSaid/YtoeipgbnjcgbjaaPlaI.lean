/- The document's end takes a datagram: open and In. -/
import Derived.Test.YtoeipgbnjcgbjaaPlaQ
import Derived.Test.YtoeipgbnjcgbjaaPAll
import Derived.Test.YtoeipgbnjcgbjaaPh
namespace Go.Proofs.Ytoeipgbnjcgbjaa
open Go.RowKit
set_option linter.unusedVariables false
set_option linter.unusedSimpArgs false

/-- A segment as it lies in memory. -/
def SgAt (b : Nat) (w : World) (q : Sg) (A : Option Addr) (c : Nat) : Prop := Cel w b 24 5 (fun i => (#[.int .i64 q.t, .int .i64 q.id, .int .i64 q.seq, .int .i64 q.ack, .slice A q.data.length c] : Array Value).getD i undef)
section
variable {b : Nat} {w : World} {q : Sg} {A : Option Addr} {c : Nat}
theorem SgAt.d0 (h : SgAt b w q A c) : w.cell? ⟨b, 0, none⟩ = some (.int .i64 q.t) := Cel.cell h 0 (by decide)
theorem SgAt.d1 (h : SgAt b w q A c) : w.cell? ⟨b, 1, none⟩ = some (.int .i64 q.id) := Cel.cell h 1 (by decide)
theorem SgAt.d2 (h : SgAt b w q A c) : w.cell? ⟨b, 2, none⟩ = some (.int .i64 q.seq) := Cel.cell h 2 (by decide)
theorem SgAt.d3 (h : SgAt b w q A c) : w.cell? ⟨b, 3, none⟩ = some (.int .i64 q.ack) := Cel.cell h 3 (by decide)
theorem SgAt.d4 (h : SgAt b w q A c) : w.cell? ⟨b, 4, none⟩ = some (.slice A q.data.length c) := Cel.cell h 4 (by decide)
end
/-- One store behind the reads. -/
def ISet (w0 : World) (a : Addr) (v : Value) : List Value → World → Prop
  | [], w => w = w0
  | _, w => w = w0.setCell a v
/-- What open leaves of the end and of the segment's block. -/
structure OpSt (W w : World) (g b : Nat) (t : En) (q : Sg) (A : Option Addr) (c : Nat) : Prop where
  r : RefAt g w t
  s : SgAt b w q A c
  chg : Chg (fun k => k = g) W w
  ne : b ≠ g
  i : Ints .u8 w A q.data
theorem OpSt.drew {W w : World} {g b : Nat} {t : En} {q : Sg} {A : Option Addr} {c : Nat} (h : OpSt W w g b t q A c) : OpSt W w.drew g b t q A c := ⟨h.r.drew, Cel.drew h.s, h.chg.drew, h.ne, h.i.drew⟩
theorem OpSt.drewN {W w : World} {g b : Nat} {t : En} {q : Sg} {A : Option Addr} {c : Nat} (h : OpSt W w g b t q A c) (n : Nat) : OpSt W (w.drewN n) g b t q A c := ⟨h.r.drewN n, Cel.drewN h.s n, h.chg.drewN n, h.ne, h.i.heap rfl⟩
theorem ints_ne {g : Nat} {w : World} {t : En} {A : Option Addr} {xs : List Int} (h : RefAt g w t) (hI : Ints .u8 w A xs) (hl : 0 < xs.length) : ∀ b o, A = some ⟨b, o, none⟩ → b ≠ g := by
  rintro b o rfl rfl
  obtain ⟨b', o', hA, _, hc⟩ := hI hl
  injection hA with hA
  injection hA with hA1 hA2
  subst hA1; subst hA2
  have h0 := hc 0 hl
  rw [Nat.add_zero] at h0
  by_cases ho : o < 14
  · rw [h.at_ o ho] at h0
    revert h0
    refine enF_cases (P := fun o => some (rF t o) = some (.int .u8 (xs.getD 0 0)) → False) ?_ ?_ ?_ ?_ ?_ ?_ ?_ ?_ ?_ ?_ ?_ ?_ ?_ ?_ o ho <;> (intro h; injection h with h; simp [rF] at h)
  · obtain ⟨cs, h1, h2, h3⟩ := h
    rw [cell_of_row w b o cs _ (0, 0) h1, Array.getElem?_eq_none (by omega)] at h0
    cases h0
theorem OpSt.set {W w : World} {g b : Nat} {t t' : En} {q : Sg} {A : Option Addr} {c : Nat} (h : OpSt W w g b t q A c) (i : Nat) (u : Value) (hf : ∀ j, j < 14 → (if j = i then u else rF t j) = rF t' j) : OpSt W (w.setCell ⟨g, i, none⟩ u) g b t' q A c := by
  refine ⟨h.r.set i u t' hf, Cel.setFar h.s h.ne u, h.chg.setCell (.inl rfl) u, h.ne, fun hl => ?_⟩
  obtain ⟨b', o', hA, hlt, hcl⟩ := h.i hl
  refine ⟨b', o', hA, by simpa [World.setCell] using hlt, fun j hj => ?_⟩
  rw [← hcl j hj]
  exact World.cell?_of_block (Below.heap_setCell _ _ _ _ (ints_ne h.r h.i hl b' o' hA))
def OpenPost (g : Nat) (w : World) (t' : En) (e : Ending) (w' : World) : Prop := e = .returned (.tuple #[]) ∧ RefAt g w' t' ∧ Chg (fun k => k = g) w w'
set_option maxRecDepth 100000 in
set_option maxHeartbeats 8000000 in
theorem ropen_any (g : Nat) (t : En) (q : Sg) (A : Option Addr) (c : Nat) (now : Int) (w : World) (h : RefAt g w t) (ho : EnOk t) (hI : Ints .u8 w A q.data) (hb : Bytes q.data) (hq : q.data.length ≤ 400) :
    Calls Try.prog 64 #[.pointer (some ⟨g, 0, none⟩), .agg #[.int .i64 q.t, .int .i64 q.id, .int .i64 q.seq, .int .i64 q.ack, .slice A q.data.length c], .int .i64 now] w (OpenPost g w (rOpenS t q now)) := by
  have hst : OpSt w (w.alloc (.cells #[.int .i64 q.t, .int .i64 q.id, .int .i64 q.seq, .int .i64 q.ack, .slice A q.data.length c] 24)) g w.heap.size t q A c := by
    have hb1 : Below w.heap.size w (w.alloc (.cells #[.int .i64 q.t, .int .i64 q.id, .int .i64 q.seq, .int .i64 q.ack, .slice A q.data.length c] 24)) := (Below.refl _ _).alloc (Nat.le_refl _) _
    exact ⟨h.below hb1, cel_seg w q A c, Chg.of_below hb1, by have := h.blk; omega, hI.below hb1⟩
  have hu := ho.una
  have hn := ho.next
  have hol := ho.outl
  have hil := ho.innl
  go_enter Try.func64, Try.ntmps64
  go_upto_region 1 with (fail)
  generalize w.alloc (.cells #[.int .i64 q.t, .int .i64 q.id, .int .i64 q.seq, .int .i64 q.ack, .slice A q.data.length c] 24) = w0 at *
  generalize w.heap.size = sb at *
  have d0 := hst.s.d0
  have HS := Lib.hid hst
  clear hst h hI
  by_cases q2 : q.t = 2
  · have e2 : (q.t == 2) = true := by simpa using q2
    have hro : rOpenS t q now = rAckedS t q.ack now := by unfold rOpenS; rw [if_pos q2]
    have hra : rOpenS t q now = if q.ack ≤ ackedV t ∨ mostS t < q.ack then t else { t with una := min q.ack t.out.length, endAcked := decide ((t.out.length : Int) < q.ack), at_ := now } := hro.trans rfl
    have d3 := HS.out.s.d3
    obtain ⟨av, hav⟩ : ∃ v, ackedV t = v := ⟨_, rfl⟩
    obtain ⟨mv, hmv⟩ : ∃ v, mostS t = v := ⟨_, rfl⟩
    obtain ⟨ak, hak⟩ : ∃ v, q.ack = v := ⟨_, rfl⟩
    have hc1 : ∀ n, Calls Try.prog 63 #[.pointer (some ⟨g, 0, none⟩)] (w0.drewN n) fun e w' => e = .returned (.int .i64 av) ∧ w0.drewN n = w' := fun n => by rw [← hav]; exact racked_any g t _ (HS.out.r.drewN n) ho
    have hc2 : ∀ n, Calls Try.prog 62 #[.pointer (some ⟨g, 0, none⟩)] (w0.drewN n) fun e w' => e = .returned (.int .i64 mv) ∧ w0.drewN n = w' := fun n => by rw [← hmv]; exact rsent_any g t _ (HS.out.r.drewN n) ho
    rw [hav, hmv, hak] at hra
    rw [hak] at d3
    have HRA := Lib.hid hra
    have HC1 := Lib.hid hc1
    have HC2 := Lib.hid hc2
    have HAK := Lib.hid hak
    clear hro hra hav hmv hc1 hc2 hak q2
    by_cases k1 : av < ak
    · have g1 : decide (av < ak) = true := decide_eq_true k1
      by_cases k2 : ak ≤ mv
      · have g2 : decide (ak ≤ mv) = true := decide_eq_true k2
        have hr2 : rOpenS t q now = { t with una := min ak t.out.length, endAcked := decide ((t.out.length : Int) < ak), at_ := now } := by rw [HRA.out, if_neg (by omega)]
        have HR2 := Lib.hid hr2
        clear hr2 HRA
        go_wp2
        go_quiet (first | (go_at_call 63; exact quiet_same (HC1.out _)) | (go_at_call 62; exact quiet_same (HC2.out _)))
        have HS1 := Lib.hid (HS.out.drewN nq)
        generalize w0.drewN nq = wq at *
        clear HS HC1 HC2 d0 d3
        obtain ⟨on, hon⟩ : ∃ n, t.out.length = n := ⟨_, rfl⟩
        obtain ⟨mn, hmi⟩ : ∃ v : Int, (if (on : Int) < ak then (on : Int) else ak) = v := ⟨_, rfl⟩
        have hmn : min ak (on : Int) = mn := by rw [← hmi]; split <;> omega
        obtain ⟨bb, hbb⟩ : ∃ b, decide ((on : Int) < ak) = b := ⟨_, rfl⟩
        have szo := strOfNums_size' t.out
        rw [hon] at szo
        have HON := Lib.hid hon
        have HMN := Lib.hid hmn
        have HBB := Lib.hid hbb
        clear hon hmn
        have D : Hid (wq.drew.cell? ⟨sb, 3, none⟩ = some (.int .i64 ak)) := by have := HS1.out.s.d3; rw [HAK.out] at this; exact this
        have CO : Hid (wq.drew.cell? ⟨g, 2, none⟩ = some (.string (strOfNums t.out))) := HS1.out.r.c2
        have CT : Hid (wq.drew.cell? ⟨g, 4, none⟩ = some (.int .i64 t.una)) := HS1.out.r.c4
        have FT : Hid (wq.drew.frozen? ⟨g, 4, none⟩ = false) := HS1.out.r.fr 4
        go_upto_region 4 with (fail)
        refine wp_region_ph (by kernel_rfl) [11] [.span 0 0, .span 0 0, .span 0 0, .span 0 0, .span 0 0, .span 0 0, .span 0 0, .span 0 0, .span 0 0, .span 0 0, .span 0 0, .phase 0] [fun z9 => z9 = .pointer (some ⟨g, 0, none⟩), fun z9 => z9 = .pointer (some ⟨sb, 3, none⟩), fun z9 => z9 = .int .i64 (ak), fun z9 => z9 = .pointer (some ⟨g, 0, none⟩), fun z9 => z9 = .pointer (some ⟨g, 0, none⟩), fun z9 => z9 = .pointer (some ⟨g, 2, none⟩), fun z9 => z9 = .string (strOfNums t.out), fun z9 => z9 = .int .i64 (on), fun z9 => z9 = .int .i64 (mn), fun z9 => z9 = .pointer (some ⟨g, 0, none⟩), fun z9 => z9 = .pointer (some ⟨g, 4, none⟩), fun _ => True] (ISet wq.drew ⟨g, 4, none⟩ (.int .i64 mn)) (by kernel_rfl) (by kernel_rfl) (by kernel_rfl) (by kernel_rfl) (by kernel_rfl) (by kernel_rfl) rfl rfl (rfl) ?steps ?done
        case steps =>
          refine ⟨?_, ?_, ?_, ?_, ?_, ?_, ?_, ?_, ?_, ?_, ?_, ?_, trivial⟩
          · intro us au w1 k0 hlo hhi ha hd hst hI
            obtain rfl : k0 = 0 := by omega
            have q0 := slot_far (t := 0) (v := .pointer (some ⟨g, 0, none⟩)) ha (by kernel_rfl) (by kernel_rfl)
            have p0 := slot_norm q0
            clear ha hd hst
            exact StepI.pure (v := .pointer (some ⟨g, 0, none⟩)) rfl rfl (by go_simp) ⟨rfl, hI⟩
          · intro us au w1 k1 hlo hhi ha hd hst hI
            obtain rfl : k1 = 0 := by omega
            have q4 := slot_far (t := 4) (v := .pointer (some ⟨sb, 0, none⟩)) ha (by kernel_rfl) (by kernel_rfl)
            have p4 := slot_norm q4
            clear ha hd hst
            exact StepI.pure (v := .pointer (some ⟨sb, 3, none⟩)) rfl rfl (by go_simp) ⟨rfl, hI⟩
          · intro us au w1 k2 hlo hhi ha hd hst hI
            obtain rfl : k2 = 0 := by omega
            have e1 := hd 1 _ (by kernel_rfl) rfl
            have q23 := slot_at (t := 23) 1 ha (by kernel_rfl) (by kernel_rfl) (by kernel_rfl) e1
            have p23 := slot_norm q23
            clear ha hd hst
            have c1 := (congrArg (fun w => World.cell? w ⟨sb, 3, none⟩) (show w1 = _ from hI)).trans D.out
            exact StepI.pure (v := .int .i64 (ak)) rfl rfl (by go_simp) ⟨rfl, hI⟩
          · intro us au w1 k3 hlo hhi ha hd hst hI
            obtain rfl : k3 = 0 := by omega
            have q0 := slot_far (t := 0) (v := .pointer (some ⟨g, 0, none⟩)) ha (by kernel_rfl) (by kernel_rfl)
            have p0 := slot_norm q0
            clear ha hd hst
            exact StepI.pure (v := .pointer (some ⟨g, 0, none⟩)) rfl rfl (by go_simp) ⟨rfl, hI⟩
          · intro us au w1 k4 hlo hhi ha hd hst hI
            obtain rfl : k4 = 0 := by omega
            have e3 := hd 3 _ (by kernel_rfl) rfl
            have q25 := slot_at (t := 25) 3 ha (by kernel_rfl) (by kernel_rfl) (by kernel_rfl) e3
            have p25 := slot_norm q25
            clear ha hd hst
            exact StepI.pure (v := .pointer (some ⟨g, 0, none⟩)) rfl rfl (by go_simp) ⟨rfl, hI⟩
          · intro us au w1 k5 hlo hhi ha hd hst hI
            obtain rfl : k5 = 0 := by omega
            have e4 := hd 4 _ (by kernel_rfl) rfl
            have q26 := slot_at (t := 26) 4 ha (by kernel_rfl) (by kernel_rfl) (by kernel_rfl) e4
            have p26 := slot_norm q26
            clear ha hd hst
            exact StepI.pure (v := .pointer (some ⟨g, 2, none⟩)) rfl rfl (by go_simp) ⟨rfl, hI⟩
          · intro us au w1 k6 hlo hhi ha hd hst hI
            obtain rfl : k6 = 0 := by omega
            have e5 := hd 5 _ (by kernel_rfl) rfl
            have q27 := slot_at (t := 27) 5 ha (by kernel_rfl) (by kernel_rfl) (by kernel_rfl) e5
            have p27 := slot_norm q27
            clear ha hd hst
            have c1 := (congrArg (fun w => World.cell? w ⟨g, 2, none⟩) (show w1 = _ from hI)).trans CO.out
            exact StepI.pure (v := .string (strOfNums t.out)) rfl rfl (by go_simp) ⟨rfl, hI⟩
          · intro us au w1 k7 hlo hhi ha hd hst hI
            obtain rfl : k7 = 0 := by omega
            have e6 := hd 6 _ (by kernel_rfl) rfl
            have q28 := slot_at (t := 28) 6 ha (by kernel_rfl) (by kernel_rfl) (by kernel_rfl) e6
            have p28 := slot_norm q28
            clear ha hd hst
            exact StepI.pure (v := .int .i64 (on)) rfl rfl (by go_simp) ⟨rfl, hI⟩
          · intro us au w1 k8 hlo hhi ha hd hst hI
            obtain rfl : k8 = 0 := by omega
            have e2 := hd 2 _ (by kernel_rfl) rfl
            have e7 := hd 7 _ (by kernel_rfl) rfl
            have q24 := slot_at (t := 24) 2 ha (by kernel_rfl) (by kernel_rfl) (by kernel_rfl) e2
            have p24 := slot_norm q24
            have q29 := slot_at (t := 29) 7 ha (by kernel_rfl) (by kernel_rfl) (by kernel_rfl) e7
            have p29 := slot_norm q29
            clear ha hd hst
            exact StepI.pure (v := .int .i64 (mn)) rfl rfl (by go_simp) ⟨rfl, hI⟩
          · intro us au w1 k9 hlo hhi ha hd hst hI
            obtain rfl : k9 = 0 := by omega
            have e0 := hd 0 _ (by kernel_rfl) rfl
            have q22 := slot_at (t := 22) 0 ha (by kernel_rfl) (by kernel_rfl) (by kernel_rfl) e0
            have p22 := slot_norm q22
            clear ha hd hst
            exact StepI.pure (v := .pointer (some ⟨g, 0, none⟩)) rfl rfl (by go_simp) ⟨rfl, hI⟩
          · intro us au w1 k10 hlo hhi ha hd hst hI
            obtain rfl : k10 = 0 := by omega
            have e9 := hd 9 _ (by kernel_rfl) rfl
            have q31 := slot_at (t := 31) 9 ha (by kernel_rfl) (by kernel_rfl) (by kernel_rfl) e9
            have p31 := slot_norm q31
            clear ha hd hst
            exact StepI.pure (v := .pointer (some ⟨g, 4, none⟩)) rfl rfl (by go_simp) ⟨rfl, hI⟩
          · intro us au w1 ha hd hst hI
            have e10 := hd 10 _ (by kernel_rfl) rfl
            have e8 := hd 8 _ (by kernel_rfl) rfl
            have q32 := slot_at (t := 32) 10 ha (by kernel_rfl) (by kernel_rfl) (by kernel_rfl) e10
            have p32 := slot_norm q32
            have q30 := slot_at (t := 30) 8 ha (by kernel_rfl) (by kernel_rfl) (by kernel_rfl) e8
            have p30 := slot_norm q30
            clear ha hd hst
            have hw1 : w1 = wq.drew := hI
            subst hw1
            have t0 := CT.out
            have f0 := FT.out
            exact StepI.stored (w' := wq.drew.setCell ⟨g, 4, none⟩ (.int .i64 mn)) rfl rfl (by go_simp) ⟨trivial, rfl⟩
        case done =>
          intro us w1 hI hd
          have hs2 : OpSt w w1 g sb { t with una := mn } q A c := by
            have hw1 : w1 = wq.drew.setCell ⟨g, 4, none⟩ (.int .i64 mn) := hI
            rw [hw1]
            exact HS1.out.drew.set 4 _ (enF_cases rfl rfl rfl rfl rfl rfl rfl rfl rfl rfl rfl rfl rfl rfl)
          have HS2 := Lib.hid hs2
          clear hd hI hs2 D CO CT FT HS1
          simp only [putAll]
          go_simp
          generalize w1 = wq at *
          have D : Hid (wq.drew.cell? ⟨sb, 3, none⟩ = some (.int .i64 ak)) := by have := HS2.out.s.d3; rw [HAK.out] at this; exact this
          have CO : Hid (wq.drew.cell? ⟨g, 2, none⟩ = some (.string (strOfNums t.out))) := HS2.out.r.c2
          have CT : Hid (wq.drew.cell? ⟨g, 7, none⟩ = some (.bool t.endAcked)) := HS2.out.r.c7
          have FT : Hid (wq.drew.frozen? ⟨g, 7, none⟩ = false) := HS2.out.r.fr 7
          go_upto_region 5 with (fail)
          refine wp_region_ph (by kernel_rfl) [11] [.span 0 0, .span 0 0, .span 0 0, .span 0 0, .span 0 0, .span 0 0, .span 0 0, .span 0 0, .span 0 0, .span 0 0, .span 0 0, .phase 0] [fun z9 => z9 = .pointer (some ⟨g, 0, none⟩), fun z9 => z9 = .pointer (some ⟨sb, 3, none⟩), fun z9 => z9 = .int .i64 (ak), fun z9 => z9 = .pointer (some ⟨g, 0, none⟩), fun z9 => z9 = .pointer (some ⟨g, 0, none⟩), fun z9 => z9 = .pointer (some ⟨g, 2, none⟩), fun z9 => z9 = .string (strOfNums t.out), fun z9 => z9 = .int .i64 (on), fun z9 => z9 = .bool bb, fun z9 => z9 = .pointer (some ⟨g, 0, none⟩), fun z9 => z9 = .pointer (some ⟨g, 7, none⟩), fun _ => True] (ISet wq.drew ⟨g, 7, none⟩ (.bool bb)) (by kernel_rfl) (by kernel_rfl) (by kernel_rfl) (by kernel_rfl) (by kernel_rfl) (by kernel_rfl) rfl rfl (rfl) ?steps ?done
          case steps =>
            refine ⟨?_, ?_, ?_, ?_, ?_, ?_, ?_, ?_, ?_, ?_, ?_, ?_, trivial⟩
            · intro us au w1 k0 hlo hhi ha hd hst hI
              obtain rfl : k0 = 0 := by omega
              have q0 := slot_far (t := 0) (v := .pointer (some ⟨g, 0, none⟩)) ha (by kernel_rfl) (by kernel_rfl)
              have p0 := slot_norm q0
              clear ha hd hst
              exact StepI.pure (v := .pointer (some ⟨g, 0, none⟩)) rfl rfl (by go_simp) ⟨rfl, hI⟩
            · intro us au w1 k1 hlo hhi ha hd hst hI
              obtain rfl : k1 = 0 := by omega
              have q4 := slot_far (t := 4) (v := .pointer (some ⟨sb, 0, none⟩)) ha (by kernel_rfl) (by kernel_rfl)
              have p4 := slot_norm q4
              clear ha hd hst
              exact StepI.pure (v := .pointer (some ⟨sb, 3, none⟩)) rfl rfl (by go_simp) ⟨rfl, hI⟩
            · intro us au w1 k2 hlo hhi ha hd hst hI
              obtain rfl : k2 = 0 := by omega
              have e1 := hd 1 _ (by kernel_rfl) rfl
              have q34 := slot_at (t := 34) 1 ha (by kernel_rfl) (by kernel_rfl) (by kernel_rfl) e1
              have p34 := slot_norm q34
              clear ha hd hst
              have c1 := (congrArg (fun w => World.cell? w ⟨sb, 3, none⟩) (show w1 = _ from hI)).trans D.out
              exact StepI.pure (v := .int .i64 (ak)) rfl rfl (by go_simp) ⟨rfl, hI⟩
            · intro us au w1 k3 hlo hhi ha hd hst hI
              obtain rfl : k3 = 0 := by omega
              have q0 := slot_far (t := 0) (v := .pointer (some ⟨g, 0, none⟩)) ha (by kernel_rfl) (by kernel_rfl)
              have p0 := slot_norm q0
              clear ha hd hst
              exact StepI.pure (v := .pointer (some ⟨g, 0, none⟩)) rfl rfl (by go_simp) ⟨rfl, hI⟩
            · intro us au w1 k4 hlo hhi ha hd hst hI
              obtain rfl : k4 = 0 := by omega
              have e3 := hd 3 _ (by kernel_rfl) rfl
              have q36 := slot_at (t := 36) 3 ha (by kernel_rfl) (by kernel_rfl) (by kernel_rfl) e3
              have p36 := slot_norm q36
              clear ha hd hst
              exact StepI.pure (v := .pointer (some ⟨g, 0, none⟩)) rfl rfl (by go_simp) ⟨rfl, hI⟩
            · intro us au w1 k5 hlo hhi ha hd hst hI
              obtain rfl : k5 = 0 := by omega
              have e4 := hd 4 _ (by kernel_rfl) rfl
              have q37 := slot_at (t := 37) 4 ha (by kernel_rfl) (by kernel_rfl) (by kernel_rfl) e4
              have p37 := slot_norm q37
              clear ha hd hst
              exact StepI.pure (v := .pointer (some ⟨g, 2, none⟩)) rfl rfl (by go_simp) ⟨rfl, hI⟩
            · intro us au w1 k6 hlo hhi ha hd hst hI
              obtain rfl : k6 = 0 := by omega
              have e5 := hd 5 _ (by kernel_rfl) rfl
              have q38 := slot_at (t := 38) 5 ha (by kernel_rfl) (by kernel_rfl) (by kernel_rfl) e5
              have p38 := slot_norm q38
              clear ha hd hst
              have c1 := (congrArg (fun w => World.cell? w ⟨g, 2, none⟩) (show w1 = _ from hI)).trans CO.out
              exact StepI.pure (v := .string (strOfNums t.out)) rfl rfl (by go_simp) ⟨rfl, hI⟩
            · intro us au w1 k7 hlo hhi ha hd hst hI
              obtain rfl : k7 = 0 := by omega
              have e6 := hd 6 _ (by kernel_rfl) rfl
              have q39 := slot_at (t := 39) 6 ha (by kernel_rfl) (by kernel_rfl) (by kernel_rfl) e6
              have p39 := slot_norm q39
              clear ha hd hst
              exact StepI.pure (v := .int .i64 (on)) rfl rfl (by go_simp) ⟨rfl, hI⟩
            · intro us au w1 k8 hlo hhi ha hd hst hI
              obtain rfl : k8 = 0 := by omega
              have e2 := hd 2 _ (by kernel_rfl) rfl
              have e7 := hd 7 _ (by kernel_rfl) rfl
              have q35 := slot_at (t := 35) 2 ha (by kernel_rfl) (by kernel_rfl) (by kernel_rfl) e2
              have p35 := slot_norm q35
              have q40 := slot_at (t := 40) 7 ha (by kernel_rfl) (by kernel_rfl) (by kernel_rfl) e7
              have p40 := slot_norm q40
              clear ha hd hst
              exact StepI.pure (v := .bool bb) rfl rfl (by go_simp) ⟨rfl, hI⟩
            · intro us au w1 k9 hlo hhi ha hd hst hI
              obtain rfl : k9 = 0 := by omega
              have e0 := hd 0 _ (by kernel_rfl) rfl
              have q33 := slot_at (t := 33) 0 ha (by kernel_rfl) (by kernel_rfl) (by kernel_rfl) e0
              have p33 := slot_norm q33
              clear ha hd hst
              exact StepI.pure (v := .pointer (some ⟨g, 0, none⟩)) rfl rfl (by go_simp) ⟨rfl, hI⟩
            · intro us au w1 k10 hlo hhi ha hd hst hI
              obtain rfl : k10 = 0 := by omega
              have e9 := hd 9 _ (by kernel_rfl) rfl
              have q42 := slot_at (t := 42) 9 ha (by kernel_rfl) (by kernel_rfl) (by kernel_rfl) e9
              have p42 := slot_norm q42
              clear ha hd hst
              exact StepI.pure (v := .pointer (some ⟨g, 7, none⟩)) rfl rfl (by go_simp) ⟨rfl, hI⟩
            · intro us au w1 ha hd hst hI
              have e10 := hd 10 _ (by kernel_rfl) rfl
              have e8 := hd 8 _ (by kernel_rfl) rfl
              have q43 := slot_at (t := 43) 10 ha (by kernel_rfl) (by kernel_rfl) (by kernel_rfl) e10
              have p43 := slot_norm q43
              have q41 := slot_at (t := 41) 8 ha (by kernel_rfl) (by kernel_rfl) (by kernel_rfl) e8
              have p41 := slot_norm q41
              clear ha hd hst
              have hw1 : w1 = wq.drew := hI
              subst hw1
              have t0 := CT.out
              have f0 := FT.out
              exact StepI.stored (w' := wq.drew.setCell ⟨g, 7, none⟩ (.bool bb)) rfl rfl (by go_simp) ⟨trivial, rfl⟩
          case done =>
            intro us w1 hI hd
            have hs3 : OpSt w w1 g sb { t with una := mn, endAcked := bb } q A c := by
              have hw1 : w1 = wq.drew.setCell ⟨g, 7, none⟩ (.bool bb) := hI
              rw [hw1]
              exact HS2.out.drew.set 7 _ (enF_cases rfl rfl rfl rfl rfl rfl rfl rfl rfl rfl rfl rfl rfl rfl)
            have HS3 := Lib.hid hs3
            have c8 := hs3.r.c8
            have f8 := hs3.r.fr 8
            clear hd hI hs3 D CO CT FT HS2
            simp only [putAll]
            go_simp
            go_wp2
            go_end0
            have hs4 : OpSt w (w1.setCell ⟨g, 8, none⟩ (.int .i64 now)) g sb { t with una := mn, endAcked := bb, at_ := now } q A c := HS3.out.set 8 _ (enF_cases rfl rfl rfl rfl rfl rfl rfl rfl rfl rfl rfl rfl rfl rfl)
            have HE := HR2.out
            rw [HON.out, HMN.out, HBB.out] at HE
            exact ⟨rfl, by rw [HE]; exact hs4.r, hs4.chg⟩
      · have g2 : decide (ak ≤ mv) = false := decide_eq_false k2
        have hr2 : rOpenS t q now = t := by rw [HRA.out, if_pos (by omega)]
        have HR2 := Lib.hid hr2
        clear hr2 HRA
        go_wp2
        go_quiet (first | (go_at_call 63; exact quiet_same (HC1.out _)) | (go_at_call 62; exact quiet_same (HC2.out _)))
        go_wp2
        go_end0
        exact ⟨rfl, by rw [HR2.out]; exact HS.out.r.drewN nq, HS.out.chg.drewN nq⟩
    · have g1 : decide (av < ak) = false := decide_eq_false k1
      have hr2 : rOpenS t q now = t := by rw [HRA.out, if_pos (by omega)]
      have HR2 := Lib.hid hr2
      clear hr2 HRA
      go_wp2
      go_quiet (first | (go_at_call 63; exact quiet_same (HC1.out _)) | (go_at_call 62; exact quiet_same (HC2.out _)))
      go_wp2
      go_end0
      exact ⟨rfl, by rw [HR2.out]; exact HS.out.r.drewN nq, HS.out.chg.drewN nq⟩
  · have e2 : (q.t == 2) = false := by simpa using q2
    obtain ⟨inl, hinl⟩ : ∃ n, t.inn.length = n := ⟨_, rfl⟩
    obtain ⟨sq, hsq⟩ : ∃ v, q.seq = v := ⟨_, rfl⟩
    obtain ⟨dn, hdn⟩ : ∃ n, q.data.length = n := ⟨_, rfl⟩
    have d2 := HS.out.s.d2
    have d4 := HS.out.s.d4
    have c10 := HS.out.r.c10
    have szi := strOfNums_size' t.inn
    rw [hinl] at szi hil
    rw [hsq] at d2
    rw [hdn] at d4 hq
    have HINL := Lib.hid hinl
    have HSQ := Lib.hid hsq
    have DN := Lib.hid hdn
    by_cases q3 : q.t = 3
    · have e3 : (q.t == 3) = true := by simpa using q3
      have hro : rOpenS t q now = (if q.seq = t.inn.length ∧ (q.data.length : Int) ≤ 1048576 - t.inn.length ∧ t.other = false then { t with owes := true, inn := t.inn ++ q.data } else { t with owes := true }) := by unfold rOpenS; rw [if_neg q2, if_pos q3]
      rw [hinl, hsq, hdn] at hro
      have HRO0 := Lib.hid hro
      clear hro q2 q3 hinl hsq hdn
      by_cases k1 : sq = (inl : Int)
      · have g1 : (sq == (inl : Int)) = true := by simpa using k1
        by_cases k2 : (dn : Int) ≤ 1048576 - (inl : Int)
        · have g2 : decide ((dn : Int) ≤ 1048576 - (inl : Int)) = true := decide_eq_true k2
          have c12 := HS.out.r.c12
          cases ho3 : t.other
          · rw [ho3] at c12
            have HRO : Hid (rOpenS t q now = { t with owes := true, inn := t.inn ++ q.data }) := by show _ = _; rw [HRO0.out, if_pos ⟨k1, k2, ho3⟩]
            clear HRO0 k1 ho3
            go_wp2
            go_quiet (fail)
            have HS1 := Lib.hid (HS.out.drewN nq)
            generalize w0.drewN nq = wq at *
            clear HS d0 d2 d4 c10 c12
            have CO : Hid (wq.drew.cell? ⟨g, 10, none⟩ = some (.string (strOfNums t.inn))) := HS1.out.r.c10
            have D : Hid (wq.drew.cell? ⟨sb, 4, none⟩ = some (.slice A dn c)) := by have := HS1.out.s.d4; rw [DN.out] at this; exact this
            have DI : Hid (Ints .u8 wq.drew A q.data) := HS1.out.i.drew
            have CT : Hid (wq.drew.cell? ⟨g, 10, none⟩ = some (.string (strOfNums t.inn))) := HS1.out.r.c10
            have FT : Hid (wq.drew.frozen? ⟨g, 10, none⟩ = false) := HS1.out.r.fr 10
            have hap := strN_append t.inn q.data
            have szd := strOfNums_size' q.data
            rw [DN.out] at szd
            go_upto_region 9 with (fail)
            refine wp_region_ph (by kernel_rfl) [11] [.span 0 0, .span 0 0, .span 0 0, .span 0 0, .span 0 0, .span 0 0, .span 0 0, .span 0 0, .span 0 0, .span 0 0, .span 0 0, .phase 0] [fun z9 => z9 = .pointer (some ⟨g, 0, none⟩), fun z9 => z9 = .pointer (some ⟨g, 0, none⟩), fun z9 => z9 = .pointer (some ⟨g, 0, none⟩), fun z9 => z9 = .pointer (some ⟨g, 10, none⟩), fun z9 => z9 = .string (strOfNums t.inn), fun z9 => z9 = .pointer (some ⟨sb, 4, none⟩), fun z9 => z9 = .slice A dn c, fun z9 => z9 = .string (strOfNums q.data), fun z9 => z9 = .string (strOfNums (t.inn ++ q.data)), fun z9 => z9 = .pointer (some ⟨g, 0, none⟩), fun z9 => z9 = .pointer (some ⟨g, 10, none⟩), fun _ => True] (ISet wq.drew ⟨g, 10, none⟩ (.string (strOfNums (t.inn ++ q.data)))) (by kernel_rfl) (by kernel_rfl) (by kernel_rfl) (by kernel_rfl) (by kernel_rfl) (by kernel_rfl) rfl rfl (rfl) ?steps ?done
            case steps =>
              refine ⟨?_, ?_, ?_, ?_, ?_, ?_, ?_, ?_, ?_, ?_, ?_, ?_, trivial⟩
              · intro us au w1 k0 hlo hhi ha hd hst hI
                obtain rfl : k0 = 0 := by omega
                have q0 := slot_far (t := 0) (v := .pointer (some ⟨g, 0, none⟩)) ha (by kernel_rfl) (by kernel_rfl)
                have p0 := slot_norm q0
                clear ha hd hst
                exact StepI.pure (v := .pointer (some ⟨g, 0, none⟩)) rfl rfl (by go_simp) ⟨rfl, hI⟩
              · intro us au w1 k1 hlo hhi ha hd hst hI
                obtain rfl : k1 = 0 := by omega
                have q0 := slot_far (t := 0) (v := .pointer (some ⟨g, 0, none⟩)) ha (by kernel_rfl) (by kernel_rfl)
                have p0 := slot_norm q0
                clear ha hd hst
                exact StepI.pure (v := .pointer (some ⟨g, 0, none⟩)) rfl rfl (by go_simp) ⟨rfl, hI⟩
              · intro us au w1 k2 hlo hhi ha hd hst hI
                obtain rfl : k2 = 0 := by omega
                have e1 := hd 1 _ (by kernel_rfl) rfl
                have q78 := slot_at (t := 78) 1 ha (by kernel_rfl) (by kernel_rfl) (by kernel_rfl) e1
                have p78 := slot_norm q78
                clear ha hd hst
                exact StepI.pure (v := .pointer (some ⟨g, 0, none⟩)) rfl rfl (by go_simp) ⟨rfl, hI⟩
              · intro us au w1 k3 hlo hhi ha hd hst hI
                obtain rfl : k3 = 0 := by omega
                have e2 := hd 2 _ (by kernel_rfl) rfl
                have q79 := slot_at (t := 79) 2 ha (by kernel_rfl) (by kernel_rfl) (by kernel_rfl) e2
                have p79 := slot_norm q79
                clear ha hd hst
                exact StepI.pure (v := .pointer (some ⟨g, 10, none⟩)) rfl rfl (by go_simp) ⟨rfl, hI⟩
              · intro us au w1 k4 hlo hhi ha hd hst hI
                obtain rfl : k4 = 0 := by omega
                have e3 := hd 3 _ (by kernel_rfl) rfl
                have q80 := slot_at (t := 80) 3 ha (by kernel_rfl) (by kernel_rfl) (by kernel_rfl) e3
                have p80 := slot_norm q80
                clear ha hd hst
                have c1 := (congrArg (fun w => World.cell? w ⟨g, 10, none⟩) (show w1 = _ from hI)).trans CO.out
                exact StepI.pure (v := .string (strOfNums t.inn)) rfl rfl (by go_simp) ⟨rfl, hI⟩
              · intro us au w1 k5 hlo hhi ha hd hst hI
                obtain rfl : k5 = 0 := by omega
                have q4 := slot_far (t := 4) (v := .pointer (some ⟨sb, 0, none⟩)) ha (by kernel_rfl) (by kernel_rfl)
                have p4 := slot_norm q4
                clear ha hd hst
                exact StepI.pure (v := .pointer (some ⟨sb, 4, none⟩)) rfl rfl (by go_simp) ⟨rfl, hI⟩
              · intro us au w1 k6 hlo hhi ha hd hst hI
                obtain rfl : k6 = 0 := by omega
                have e5 := hd 5 _ (by kernel_rfl) rfl
                have q82 := slot_at (t := 82) 5 ha (by kernel_rfl) (by kernel_rfl) (by kernel_rfl) e5
                have p82 := slot_norm q82
                clear ha hd hst
                have c1 := (congrArg (fun w => World.cell? w ⟨sb, 4, none⟩) (show w1 = _ from hI)).trans D.out
                exact StepI.pure (v := .slice A dn c) rfl rfl (by go_simp) ⟨rfl, hI⟩
              · intro us au w1 k7 hlo hhi ha hd hst hI
                obtain rfl : k7 = 0 := by omega
                have e6 := hd 6 _ (by kernel_rfl) rfl
                have q83 := slot_at (t := 83) 6 ha (by kernel_rfl) (by kernel_rfl) (by kernel_rfl) e6
                have p83 := slot_norm q83
                clear ha hd hst
                have hr := run_str_ints (P := Try.prog) (w := w1) 22 9 5 Try.underlying22 Try.underlying5 Try.underlying9 A c q.data (by rw [show w1 = _ from hI]; exact DI.out)
                rw [DN.out] at hr
                exact StepI.runs (v := .string (strOfNums q.data)) (w' := w1) rfl rfl (by go_simp <;> exact hr) ⟨rfl, hI⟩
              · intro us au w1 k8 hlo hhi ha hd hst hI
                obtain rfl : k8 = 0 := by omega
                have e4 := hd 4 _ (by kernel_rfl) rfl
                have e7 := hd 7 _ (by kernel_rfl) rfl
                have q81 := slot_at (t := 81) 4 ha (by kernel_rfl) (by kernel_rfl) (by kernel_rfl) e4
                have p81 := slot_norm q81
                have q84 := slot_at (t := 84) 7 ha (by kernel_rfl) (by kernel_rfl) (by kernel_rfl) e7
                have p84 := slot_norm q84
                clear ha hd hst
                exact StepI.pure (v := .string (strOfNums (t.inn ++ q.data))) rfl rfl (by go_simp; omega) ⟨rfl, hI⟩
              · intro us au w1 k9 hlo hhi ha hd hst hI
                obtain rfl : k9 = 0 := by omega
                have e0 := hd 0 _ (by kernel_rfl) rfl
                have q77 := slot_at (t := 77) 0 ha (by kernel_rfl) (by kernel_rfl) (by kernel_rfl) e0
                have p77 := slot_norm q77
                clear ha hd hst
                exact StepI.pure (v := .pointer (some ⟨g, 0, none⟩)) rfl rfl (by go_simp) ⟨rfl, hI⟩
              · intro us au w1 k10 hlo hhi ha hd hst hI
                obtain rfl : k10 = 0 := by omega
                have e9 := hd 9 _ (by kernel_rfl) rfl
                have q86 := slot_at (t := 86) 9 ha (by kernel_rfl) (by kernel_rfl) (by kernel_rfl) e9
                have p86 := slot_norm q86
                clear ha hd hst
                exact StepI.pure (v := .pointer (some ⟨g, 10, none⟩)) rfl rfl (by go_simp) ⟨rfl, hI⟩
              · intro us au w1 ha hd hst hI
                have e10 := hd 10 _ (by kernel_rfl) rfl
                have e8 := hd 8 _ (by kernel_rfl) rfl
                have q87 := slot_at (t := 87) 10 ha (by kernel_rfl) (by kernel_rfl) (by kernel_rfl) e10
                have p87 := slot_norm q87
                have q85 := slot_at (t := 85) 8 ha (by kernel_rfl) (by kernel_rfl) (by kernel_rfl) e8
                have p85 := slot_norm q85
                clear ha hd hst
                have hw1 : w1 = wq.drew := hI
                subst hw1
                have t0 := CT.out
                have f0 := FT.out
                exact StepI.stored (w' := wq.drew.setCell ⟨g, 10, none⟩ (.string (strOfNums (t.inn ++ q.data)))) rfl rfl (by go_simp) ⟨trivial, rfl⟩
            case done =>
              intro us w1 hI hd
              have hs2 : OpSt w w1 g sb { t with inn := t.inn ++ q.data } q A c := by
                have hw1 : w1 = wq.drew.setCell ⟨g, 10, none⟩ (.string (strOfNums (t.inn ++ q.data))) := hI
                rw [hw1]
                exact HS1.out.drew.set 10 _ (enF_cases rfl rfl rfl rfl rfl rfl rfl rfl rfl rfl rfl rfl rfl rfl)
              have HS2 := Lib.hid hs2
              have c13 := hs2.r.c13
              have f13 := hs2.r.fr 13
              clear hd hI hs2 D CO CT FT HS1 DI
              simp only [putAll]
              go_simp
              go_wp2
              go_end0
              have hs9 : OpSt w ((w1).setCell ⟨g, 13, none⟩ (.bool true)) g sb { t with owes := true, inn := t.inn ++ q.data } q A c := (HS2.out).set 13 _ (enF_cases rfl rfl rfl rfl rfl rfl rfl rfl rfl rfl rfl rfl rfl rfl)
              exact ⟨rfl, by rw [HRO.out]; exact hs9.r, hs9.chg⟩
          · rw [ho3] at c12
            have HRO : Hid (rOpenS t q now = { t with owes := true }) := by show _ = _; rw [HRO0.out, if_neg (fun h => by rw [ho3] at h; cases h.2.2)]
            clear HRO0 k1 ho3
            go_wp2
            go_quiet (fail)
            have c13 := (HS.out.drewN nq).r.c13
            have f13 := (HS.out.drewN nq).r.fr 13
            go_wp2
            go_end0
            have hs9 : OpSt w ((w0.drewN nq).setCell ⟨g, 13, none⟩ (.bool true)) g sb { t with owes := true } q A c := (HS.out.drewN nq).set 13 _ (enF_cases rfl rfl rfl rfl rfl rfl rfl rfl rfl rfl rfl rfl rfl rfl)
            exact ⟨rfl, by rw [HRO.out]; exact hs9.r, hs9.chg⟩
        · have g2 : decide ((dn : Int) ≤ 1048576 - (inl : Int)) = false := decide_eq_false k2
          have HRO : Hid (rOpenS t q now = { t with owes := true }) := by show _ = _; rw [HRO0.out, if_neg (fun h => k2 h.2.1)]
          clear HRO0 k1
          go_wp2
          go_quiet (fail)
          have c13 := (HS.out.drewN nq).r.c13
          have f13 := (HS.out.drewN nq).r.fr 13
          go_wp2
          go_end0
          have hs9 : OpSt w ((w0.drewN nq).setCell ⟨g, 13, none⟩ (.bool true)) g sb { t with owes := true } q A c := (HS.out.drewN nq).set 13 _ (enF_cases rfl rfl rfl rfl rfl rfl rfl rfl rfl rfl rfl rfl rfl rfl)
          exact ⟨rfl, by rw [HRO.out]; exact hs9.r, hs9.chg⟩
      · have g1 : (sq == (inl : Int)) = false := by simpa using k1
        have HRO : Hid (rOpenS t q now = { t with owes := true }) := by show _ = _; rw [HRO0.out, if_neg (fun h => k1 h.1)]
        clear HRO0 k1
        go_wp2
        go_quiet (fail)
        have c13 := (HS.out.drewN nq).r.c13
        have f13 := (HS.out.drewN nq).r.fr 13
        go_wp2
        go_end0
        have hs9 : OpSt w ((w0.drewN nq).setCell ⟨g, 13, none⟩ (.bool true)) g sb { t with owes := true } q A c := (HS.out.drewN nq).set 13 _ (enF_cases rfl rfl rfl rfl rfl rfl rfl rfl rfl rfl rfl rfl rfl rfl)
        exact ⟨rfl, by rw [HRO.out]; exact hs9.r, hs9.chg⟩
    · have e3 : (q.t == 3) = false := by simpa using q3
      by_cases q4 : q.t = 4
      · have e4 : (q.t == 4) = true := by simpa using q4
        obtain ⟨bb, hbb⟩ : ∃ b, (sq == (inl : Int)) = b := ⟨_, rfl⟩
        have hro : rOpenS t q now = { t with owes := true, other := t.other || bb } := by
          unfold rOpenS; rw [if_neg q2, if_neg q3, if_pos q4, hinl, hsq, ← hbb]
          congr 2
        have HRO1 := Lib.hid hro
        clear hro q2 q3 q4 hinl hsq hdn
        have D : Hid (w0.drew.cell? ⟨sb, 2, none⟩ = some (.int .i64 sq)) := d2
        have CI : Hid (w0.drew.cell? ⟨g, 10, none⟩ = some (.string (strOfNums t.inn))) := c10
        have CT : Hid (w0.drew.cell? ⟨g, 12, none⟩ = some (.bool t.other)) := HS.out.r.c12
        have FT : Hid (w0.drew.frozen? ⟨g, 12, none⟩ = false) := HS.out.r.fr 12
        clear d2 d4 c10
        have HS1 := Lib.hid HS.out.drew
        cases ho3 : t.other
        · have CO : Hid (w0.drew.cell? ⟨g, 12, none⟩ = some (.bool false)) := by rw [← ho3]; exact CT.out
          have HRO : Hid (rOpenS t q now = { t with owes := true, other := bb }) := by show _ = _; rw [HRO1.out, ho3, Bool.false_or]
          clear HRO1 ho3
          go_upto_region 11 with (fail)
          clear d0
          generalize w0 = wq at *
          refine wp_region_ph (by kernel_rfl) [17] [.span 0 0, .span 0 0, .span 0 0, .span 0 0, .span 0 0, .span 0 0, .span 0 0, .span 0 0, .span 0 0, .span 0 0, .span 0 0, .span 0 0, .span 0 0, .span 0 0, .span 0 0, .span 0 0, .span 0 0, .phase 0] [fun z9 => z9 = .pointer (some ⟨g, 0, none⟩), fun z9 => z9 = .pointer (some ⟨g, 0, none⟩), fun z9 => z9 = .pointer (some ⟨g, 0, none⟩), fun z9 => z9 = .pointer (some ⟨g, 12, none⟩), fun z9 => z9 = .bool false, fun z9 => z9 = .bool false, fun z9 => z9 = .pointer (some ⟨sb, 2, none⟩), fun z9 => z9 = .int .i64 (sq), fun z9 => z9 = .pointer (some ⟨g, 0, none⟩), fun z9 => z9 = .pointer (some ⟨g, 0, none⟩), fun z9 => z9 = .pointer (some ⟨g, 10, none⟩), fun z9 => z9 = .string (strOfNums t.inn), fun z9 => z9 = .int .i64 (inl), fun z9 => z9 = .bool bb, fun z9 => z9 = .bool bb, fun z9 => z9 = .pointer (some ⟨g, 0, none⟩), fun z9 => z9 = .pointer (some ⟨g, 12, none⟩), fun _ => True] (ISet wq.drew ⟨g, 12, none⟩ (.bool bb)) (by kernel_rfl) (by kernel_rfl) (by kernel_rfl) (by kernel_rfl) (by kernel_rfl) (by kernel_rfl) rfl rfl (rfl) ?steps ?done
          case steps =>
            refine ⟨?_, ?_, ?_, ?_, ?_, ?_, ?_, ?_, ?_, ?_, ?_, ?_, ?_, ?_, ?_, ?_, ?_, ?_, trivial⟩
            · intro us au w1 k0 hlo hhi ha hd hst hI
              obtain rfl : k0 = 0 := by omega
              have q0 := slot_far (t := 0) (v := .pointer (some ⟨g, 0, none⟩)) ha (by kernel_rfl) (by kernel_rfl)
              have p0 := slot_norm q0
              clear ha hd hst
              exact StepI.pure (v := .pointer (some ⟨g, 0, none⟩)) rfl rfl (by go_simp) ⟨rfl, hI⟩
            · intro us au w1 k1 hlo hhi ha hd hst hI
              obtain rfl : k1 = 0 := by omega
              have q0 := slot_far (t := 0) (v := .pointer (some ⟨g, 0, none⟩)) ha (by kernel_rfl) (by kernel_rfl)
              have p0 := slot_norm q0
              clear ha hd hst
              exact StepI.pure (v := .pointer (some ⟨g, 0, none⟩)) rfl rfl (by go_simp) ⟨rfl, hI⟩
            · intro us au w1 k2 hlo hhi ha hd hst hI
              obtain rfl : k2 = 0 := by omega
              have e1 := hd 1 _ (by kernel_rfl) rfl
              have q91 := slot_at (t := 91) 1 ha (by kernel_rfl) (by kernel_rfl) (by kernel_rfl) e1
              have p91 := slot_norm q91
              clear ha hd hst
              exact StepI.pure (v := .pointer (some ⟨g, 0, none⟩)) rfl rfl (by go_simp) ⟨rfl, hI⟩
            · intro us au w1 k3 hlo hhi ha hd hst hI
              obtain rfl : k3 = 0 := by omega
              have e2 := hd 2 _ (by kernel_rfl) rfl
              have q92 := slot_at (t := 92) 2 ha (by kernel_rfl) (by kernel_rfl) (by kernel_rfl) e2
              have p92 := slot_norm q92
              clear ha hd hst
              exact StepI.pure (v := .pointer (some ⟨g, 12, none⟩)) rfl rfl (by go_simp) ⟨rfl, hI⟩
            · intro us au w1 k4 hlo hhi ha hd hst hI
              obtain rfl : k4 = 0 := by omega
              have e3 := hd 3 _ (by kernel_rfl) rfl
              have q93 := slot_at (t := 93) 3 ha (by kernel_rfl) (by kernel_rfl) (by kernel_rfl) e3
              have p93 := slot_norm q93
              clear ha hd hst
              have c1 := (congrArg (fun w => World.cell? w ⟨g, 12, none⟩) (show w1 = _ from hI)).trans CO.out
              exact StepI.pure (v := .bool false) rfl rfl (by go_simp) ⟨rfl, hI⟩
            · intro us au w1 k5 hlo hhi ha hd hst hI
              obtain rfl : k5 = 0 := by omega
              have e4 := hd 4 _ (by kernel_rfl) rfl
              have q94 := slot_at (t := 94) 4 ha (by kernel_rfl) (by kernel_rfl) (by kernel_rfl) e4
              have p94 := slot_norm q94
              clear ha hd hst
              exact StepI.pure (v := .bool false) rfl rfl (by go_simp) ⟨rfl, hI⟩
            · intro us au w1 k6 hlo hhi ha hd hst hI
              obtain rfl : k6 = 0 := by omega
              have e5 := hd 5 _ (by kernel_rfl) rfl
              have q4 := slot_far (t := 4) (v := .pointer (some ⟨sb, 0, none⟩)) ha (by kernel_rfl) (by kernel_rfl)
              have p4 := slot_norm q4
              have hg := slot_at (t := 95) 5 ha (by kernel_rfl) (by kernel_rfl) (by kernel_rfl) e5
              clear ha hd hst
              exact StepI.pure (v := .pointer (some ⟨sb, 2, none⟩)) rfl (wanted_at rfl rfl hg) (by go_simp) ⟨rfl, hI⟩
            · intro us au w1 k7 hlo hhi ha hd hst hI
              obtain rfl : k7 = 0 := by omega
              have e6 := hd 6 _ (by kernel_rfl) rfl
              have e5 := hd 5 _ (by kernel_rfl) rfl
              have q96 := slot_at (t := 96) 6 ha (by kernel_rfl) (by kernel_rfl) (by kernel_rfl) e6
              have p96 := slot_norm q96
              have hg := slot_at (t := 95) 5 ha (by kernel_rfl) (by kernel_rfl) (by kernel_rfl) e5
              clear ha hd hst
              have c1 := (congrArg (fun w => World.cell? w ⟨sb, 2, none⟩) (show w1 = _ from hI)).trans D.out
              exact StepI.pure (v := .int .i64 (sq)) rfl (wanted_at rfl rfl hg) (by go_simp) ⟨rfl, hI⟩
            · intro us au w1 k8 hlo hhi ha hd hst hI
              obtain rfl : k8 = 0 := by omega
              have e5 := hd 5 _ (by kernel_rfl) rfl
              have q0 := slot_far (t := 0) (v := .pointer (some ⟨g, 0, none⟩)) ha (by kernel_rfl) (by kernel_rfl)
              have p0 := slot_norm q0
              have hg := slot_at (t := 95) 5 ha (by kernel_rfl) (by kernel_rfl) (by kernel_rfl) e5
              clear ha hd hst
              exact StepI.pure (v := .pointer (some ⟨g, 0, none⟩)) rfl (wanted_at rfl rfl hg) (by go_simp) ⟨rfl, hI⟩
            · intro us au w1 k9 hlo hhi ha hd hst hI
              obtain rfl : k9 = 0 := by omega
              have e8 := hd 8 _ (by kernel_rfl) rfl
              have e5 := hd 5 _ (by kernel_rfl) rfl
              have q98 := slot_at (t := 98) 8 ha (by kernel_rfl) (by kernel_rfl) (by kernel_rfl) e8
              have p98 := slot_norm q98
              have hg := slot_at (t := 95) 5 ha (by kernel_rfl) (by kernel_rfl) (by kernel_rfl) e5
              clear ha hd hst
              exact StepI.pure (v := .pointer (some ⟨g, 0, none⟩)) rfl (wanted_at rfl rfl hg) (by go_simp) ⟨rfl, hI⟩
            · intro us au w1 k10 hlo hhi ha hd hst hI
              obtain rfl : k10 = 0 := by omega
              have e9 := hd 9 _ (by kernel_rfl) rfl
              have e5 := hd 5 _ (by kernel_rfl) rfl
              have q99 := slot_at (t := 99) 9 ha (by kernel_rfl) (by kernel_rfl) (by kernel_rfl) e9
              have p99 := slot_norm q99
              have hg := slot_at (t := 95) 5 ha (by kernel_rfl) (by kernel_rfl) (by kernel_rfl) e5
              clear ha hd hst
              exact StepI.pure (v := .pointer (some ⟨g, 10, none⟩)) rfl (wanted_at rfl rfl hg) (by go_simp) ⟨rfl, hI⟩
            · intro us au w1 k11 hlo hhi ha hd hst hI
              obtain rfl : k11 = 0 := by omega
              have e10 := hd 10 _ (by kernel_rfl) rfl
              have e5 := hd 5 _ (by kernel_rfl) rfl
              have q100 := slot_at (t := 100) 10 ha (by kernel_rfl) (by kernel_rfl) (by kernel_rfl) e10
              have p100 := slot_norm q100
              have hg := slot_at (t := 95) 5 ha (by kernel_rfl) (by kernel_rfl) (by kernel_rfl) e5
              clear ha hd hst
              have c1 := (congrArg (fun w => World.cell? w ⟨g, 10, none⟩) (show w1 = _ from hI)).trans CI.out
              exact StepI.pure (v := .string (strOfNums t.inn)) rfl (wanted_at rfl rfl hg) (by go_simp) ⟨rfl, hI⟩
            · intro us au w1 k12 hlo hhi ha hd hst hI
              obtain rfl : k12 = 0 := by omega
              have e11 := hd 11 _ (by kernel_rfl) rfl
              have e5 := hd 5 _ (by kernel_rfl) rfl
              have q101 := slot_at (t := 101) 11 ha (by kernel_rfl) (by kernel_rfl) (by kernel_rfl) e11
              have p101 := slot_norm q101
              have hg := slot_at (t := 95) 5 ha (by kernel_rfl) (by kernel_rfl) (by kernel_rfl) e5
              clear ha hd hst
              exact StepI.pure (v := .int .i64 (inl)) rfl (wanted_at rfl rfl hg) (by go_simp) ⟨rfl, hI⟩
            · intro us au w1 k13 hlo hhi ha hd hst hI
              obtain rfl : k13 = 0 := by omega
              have e7 := hd 7 _ (by kernel_rfl) rfl
              have e12 := hd 12 _ (by kernel_rfl) rfl
              have e5 := hd 5 _ (by kernel_rfl) rfl
              have q97 := slot_at (t := 97) 7 ha (by kernel_rfl) (by kernel_rfl) (by kernel_rfl) e7
              have p97 := slot_norm q97
              have q102 := slot_at (t := 102) 12 ha (by kernel_rfl) (by kernel_rfl) (by kernel_rfl) e12
              have p102 := slot_norm q102
              have hg := slot_at (t := 95) 5 ha (by kernel_rfl) (by kernel_rfl) (by kernel_rfl) e5
              clear ha hd hst
              exact StepI.pure (v := .bool bb) rfl (wanted_at rfl rfl hg) (by go_simp) ⟨rfl, hI⟩
            · intro us au w1 k14 hlo hhi ha hd hst hI
              obtain rfl : k14 = 0 := by omega
              have e5 := hd 5 _ (by kernel_rfl) rfl
              have e13 := hd 13 _ (by kernel_rfl) rfl
              have q95 := slot_at (t := 95) 5 ha (by kernel_rfl) (by kernel_rfl) (by kernel_rfl) e5
              have p95 := slot_norm q95
              have q103 := slot_at (t := 103) 13 ha (by kernel_rfl) (by kernel_rfl) (by kernel_rfl) e13
              have p103 := slot_norm q103
              clear ha hd hst
              exact StepI.pure (v := .bool bb) rfl rfl (by go_simp) ⟨rfl, hI⟩
            · intro us au w1 k15 hlo hhi ha hd hst hI
              obtain rfl : k15 = 0 := by omega
              have e0 := hd 0 _ (by kernel_rfl) rfl
              have q90 := slot_at (t := 90) 0 ha (by kernel_rfl) (by kernel_rfl) (by kernel_rfl) e0
              have p90 := slot_norm q90
              clear ha hd hst
              exact StepI.pure (v := .pointer (some ⟨g, 0, none⟩)) rfl rfl (by go_simp) ⟨rfl, hI⟩
            · intro us au w1 k16 hlo hhi ha hd hst hI
              obtain rfl : k16 = 0 := by omega
              have e15 := hd 15 _ (by kernel_rfl) rfl
              have q105 := slot_at (t := 105) 15 ha (by kernel_rfl) (by kernel_rfl) (by kernel_rfl) e15
              have p105 := slot_norm q105
              clear ha hd hst
              exact StepI.pure (v := .pointer (some ⟨g, 12, none⟩)) rfl rfl (by go_simp) ⟨rfl, hI⟩
            · intro us au w1 ha hd hst hI
              have e16 := hd 16 _ (by kernel_rfl) rfl
              have e14 := hd 14 _ (by kernel_rfl) rfl
              have q106 := slot_at (t := 106) 16 ha (by kernel_rfl) (by kernel_rfl) (by kernel_rfl) e16
              have p106 := slot_norm q106
              have q104 := slot_at (t := 104) 14 ha (by kernel_rfl) (by kernel_rfl) (by kernel_rfl) e14
              have p104 := slot_norm q104
              clear ha hd hst
              have hw1 : w1 = wq.drew := hI
              subst hw1
              have t0 := CT.out
              have f0 := FT.out
              exact StepI.stored (w' := wq.drew.setCell ⟨g, 12, none⟩ (.bool bb)) rfl rfl (by go_simp) ⟨trivial, rfl⟩
          case done =>
            intro us w1 hI hd
            have hs2 : OpSt w w1 g sb { t with other := bb } q A c := by
              have hw1 : w1 = wq.drew.setCell ⟨g, 12, none⟩ (.bool bb) := hI
              rw [hw1]
              exact HS1.out.set 12 _ (enF_cases rfl rfl rfl rfl rfl rfl rfl rfl rfl rfl rfl rfl rfl rfl)
            have HS2 := Lib.hid hs2
            have c13 := hs2.r.c13
            have f13 := hs2.r.fr 13
            clear hd hI hs2 D CO CT CI FT HS1
            simp only [putAll]
            go_simp
            go_wp2
            go_end0
            have hs9 : OpSt w ((w1).setCell ⟨g, 13, none⟩ (.bool true)) g sb { t with owes := true, other := bb } q A c := (HS2.out).set 13 _ (enF_cases rfl rfl rfl rfl rfl rfl rfl rfl rfl rfl rfl rfl rfl rfl)
            exact ⟨rfl, by rw [HRO.out]; exact hs9.r, hs9.chg⟩
        · have CO : Hid (w0.drew.cell? ⟨g, 12, none⟩ = some (.bool true)) := by rw [← ho3]; exact CT.out
          have HRO : Hid (rOpenS t q now = { t with owes := true, other := true }) := by show _ = _; rw [HRO1.out, ho3, Bool.true_or]
          clear HRO1 ho3
          go_upto_region 11 with (fail)
          clear d0
          generalize w0 = wq at *
          refine wp_region_ph (by kernel_rfl) [17] [.span 0 0, .span 0 0, .span 0 0, .span 0 0, .span 0 0, .span 0 0, .span 0 0, .span 0 0, .span 0 0, .span 0 0, .span 0 0, .span 0 0, .span 0 0, .span 0 0, .span 0 0, .span 0 0, .span 0 0, .phase 0] [fun z9 => z9 = .pointer (some ⟨g, 0, none⟩), fun z9 => z9 = .pointer (some ⟨g, 0, none⟩), fun z9 => z9 = .pointer (some ⟨g, 0, none⟩), fun z9 => z9 = .pointer (some ⟨g, 12, none⟩), fun z9 => z9 = .bool true, fun z9 => z9 = .bool true, fun z9 => z9 = undef, fun z9 => z9 = undef, fun z9 => z9 = undef, fun z9 => z9 = undef, fun z9 => z9 = undef, fun z9 => z9 = undef, fun z9 => z9 = undef, fun z9 => z9 = undef, fun z9 => z9 = .bool true, fun z9 => z9 = .pointer (some ⟨g, 0, none⟩), fun z9 => z9 = .pointer (some ⟨g, 12, none⟩), fun _ => True] (ISet wq.drew ⟨g, 12, none⟩ (.bool true)) (by kernel_rfl) (by kernel_rfl) (by kernel_rfl) (by kernel_rfl) (by kernel_rfl) (by kernel_rfl) rfl rfl (rfl) ?steps ?done
          case steps =>
            refine ⟨?_, ?_, ?_, ?_, ?_, ?_, ?_, ?_, ?_, ?_, ?_, ?_, ?_, ?_, ?_, ?_, ?_, ?_, trivial⟩
            · intro us au w1 k0 hlo hhi ha hd hst hI
              obtain rfl : k0 = 0 := by omega
              have q0 := slot_far (t := 0) (v := .pointer (some ⟨g, 0, none⟩)) ha (by kernel_rfl) (by kernel_rfl)
              have p0 := slot_norm q0
              clear ha hd hst
              exact StepI.pure (v := .pointer (some ⟨g, 0, none⟩)) rfl rfl (by go_simp) ⟨rfl, hI⟩
            · intro us au w1 k1 hlo hhi ha hd hst hI
              obtain rfl : k1 = 0 := by omega
              have q0 := slot_far (t := 0) (v := .pointer (some ⟨g, 0, none⟩)) ha (by kernel_rfl) (by kernel_rfl)
              have p0 := slot_norm q0
              clear ha hd hst
              exact StepI.pure (v := .pointer (some ⟨g, 0, none⟩)) rfl rfl (by go_simp) ⟨rfl, hI⟩
            · intro us au w1 k2 hlo hhi ha hd hst hI
              obtain rfl : k2 = 0 := by omega
              have e1 := hd 1 _ (by kernel_rfl) rfl
              have q91 := slot_at (t := 91) 1 ha (by kernel_rfl) (by kernel_rfl) (by kernel_rfl) e1
              have p91 := slot_norm q91
              clear ha hd hst
              exact StepI.pure (v := .pointer (some ⟨g, 0, none⟩)) rfl rfl (by go_simp) ⟨rfl, hI⟩
            · intro us au w1 k3 hlo hhi ha hd hst hI
              obtain rfl : k3 = 0 := by omega
              have e2 := hd 2 _ (by kernel_rfl) rfl
              have q92 := slot_at (t := 92) 2 ha (by kernel_rfl) (by kernel_rfl) (by kernel_rfl) e2
              have p92 := slot_norm q92
              clear ha hd hst
              exact StepI.pure (v := .pointer (some ⟨g, 12, none⟩)) rfl rfl (by go_simp) ⟨rfl, hI⟩
            · intro us au w1 k4 hlo hhi ha hd hst hI
              obtain rfl : k4 = 0 := by omega
              have e3 := hd 3 _ (by kernel_rfl) rfl
              have q93 := slot_at (t := 93) 3 ha (by kernel_rfl) (by kernel_rfl) (by kernel_rfl) e3
              have p93 := slot_norm q93
              clear ha hd hst
              have c1 := (congrArg (fun w => World.cell? w ⟨g, 12, none⟩) (show w1 = _ from hI)).trans CO.out
              exact StepI.pure (v := .bool true) rfl rfl (by go_simp) ⟨rfl, hI⟩
            · intro us au w1 k5 hlo hhi ha hd hst hI
              obtain rfl : k5 = 0 := by omega
              have e4 := hd 4 _ (by kernel_rfl) rfl
              have q94 := slot_at (t := 94) 4 ha (by kernel_rfl) (by kernel_rfl) (by kernel_rfl) e4
              have p94 := slot_norm q94
              clear ha hd hst
              exact StepI.pure (v := .bool true) rfl rfl (by go_simp) ⟨rfl, hI⟩
            · intro us au w1 k6 hlo hhi ha hd hst hI
              obtain rfl : k6 = 0 := by omega
              have e5 := hd 5 _ (by kernel_rfl) rfl
              have hg := slot_at (t := 95) 5 ha (by kernel_rfl) (by kernel_rfl) (by kernel_rfl) e5
              exact StepI.skip rfl (unwanted_at rfl rfl hg rfl) ⟨rfl, hI⟩
            · intro us au w1 k7 hlo hhi ha hd hst hI
              obtain rfl : k7 = 0 := by omega
              have e5 := hd 5 _ (by kernel_rfl) rfl
              have hg := slot_at (t := 95) 5 ha (by kernel_rfl) (by kernel_rfl) (by kernel_rfl) e5
              exact StepI.skip rfl (unwanted_at rfl rfl hg rfl) ⟨rfl, hI⟩
            · intro us au w1 k8 hlo hhi ha hd hst hI
              obtain rfl : k8 = 0 := by omega
              have e5 := hd 5 _ (by kernel_rfl) rfl
              have hg := slot_at (t := 95) 5 ha (by kernel_rfl) (by kernel_rfl) (by kernel_rfl) e5
              exact StepI.skip rfl (unwanted_at rfl rfl hg rfl) ⟨rfl, hI⟩
            · intro us au w1 k9 hlo hhi ha hd hst hI
              obtain rfl : k9 = 0 := by omega
              have e5 := hd 5 _ (by kernel_rfl) rfl
              have hg := slot_at (t := 95) 5 ha (by kernel_rfl) (by kernel_rfl) (by kernel_rfl) e5
              exact StepI.skip rfl (unwanted_at rfl rfl hg rfl) ⟨rfl, hI⟩
            · intro us au w1 k10 hlo hhi ha hd hst hI
              obtain rfl : k10 = 0 := by omega
              have e5 := hd 5 _ (by kernel_rfl) rfl
              have hg := slot_at (t := 95) 5 ha (by kernel_rfl) (by kernel_rfl) (by kernel_rfl) e5
              exact StepI.skip rfl (unwanted_at rfl rfl hg rfl) ⟨rfl, hI⟩
            · intro us au w1 k11 hlo hhi ha hd hst hI
              obtain rfl : k11 = 0 := by omega
              have e5 := hd 5 _ (by kernel_rfl) rfl
              have hg := slot_at (t := 95) 5 ha (by kernel_rfl) (by kernel_rfl) (by kernel_rfl) e5
              exact StepI.skip rfl (unwanted_at rfl rfl hg rfl) ⟨rfl, hI⟩
            · intro us au w1 k12 hlo hhi ha hd hst hI
              obtain rfl : k12 = 0 := by omega
              have e5 := hd 5 _ (by kernel_rfl) rfl
              have hg := slot_at (t := 95) 5 ha (by kernel_rfl) (by kernel_rfl) (by kernel_rfl) e5
              exact StepI.skip rfl (unwanted_at rfl rfl hg rfl) ⟨rfl, hI⟩
            · intro us au w1 k13 hlo hhi ha hd hst hI
              obtain rfl : k13 = 0 := by omega
              have e5 := hd 5 _ (by kernel_rfl) rfl
              have hg := slot_at (t := 95) 5 ha (by kernel_rfl) (by kernel_rfl) (by kernel_rfl) e5
              exact StepI.skip rfl (unwanted_at rfl rfl hg rfl) ⟨rfl, hI⟩
            · intro us au w1 k14 hlo hhi ha hd hst hI
              obtain rfl : k14 = 0 := by omega
              have e5 := hd 5 _ (by kernel_rfl) rfl
              have e13 := hd 13 _ (by kernel_rfl) rfl
              have q95 := slot_at (t := 95) 5 ha (by kernel_rfl) (by kernel_rfl) (by kernel_rfl) e5
              have p95 := slot_norm q95
              have q103 := slot_at (t := 103) 13 ha (by kernel_rfl) (by kernel_rfl) (by kernel_rfl) e13
              have p103 := slot_norm q103
              clear ha hd hst
              exact StepI.pure (v := .bool true) rfl rfl (by go_simp) ⟨rfl, hI⟩
            · intro us au w1 k15 hlo hhi ha hd hst hI
              obtain rfl : k15 = 0 := by omega
              have e0 := hd 0 _ (by kernel_rfl) rfl
              have q90 := slot_at (t := 90) 0 ha (by kernel_rfl) (by kernel_rfl) (by kernel_rfl) e0
              have p90 := slot_norm q90
              clear ha hd hst
              exact StepI.pure (v := .pointer (some ⟨g, 0, none⟩)) rfl rfl (by go_simp) ⟨rfl, hI⟩
            · intro us au w1 k16 hlo hhi ha hd hst hI
              obtain rfl : k16 = 0 := by omega
              have e15 := hd 15 _ (by kernel_rfl) rfl
              have q105 := slot_at (t := 105) 15 ha (by kernel_rfl) (by kernel_rfl) (by kernel_rfl) e15
              have p105 := slot_norm q105
              clear ha hd hst
              exact StepI.pure (v := .pointer (some ⟨g, 12, none⟩)) rfl rfl (by go_simp) ⟨rfl, hI⟩
            · intro us au w1 ha hd hst hI
              have e16 := hd 16 _ (by kernel_rfl) rfl
              have e14 := hd 14 _ (by kernel_rfl) rfl
              have q106 := slot_at (t := 106) 16 ha (by kernel_rfl) (by kernel_rfl) (by kernel_rfl) e16
              have p106 := slot_norm q106
              have q104 := slot_at (t := 104) 14 ha (by kernel_rfl) (by kernel_rfl) (by kernel_rfl) e14
              have p104 := slot_norm q104
              clear ha hd hst
              have hw1 : w1 = wq.drew := hI
              subst hw1
              have t0 := CT.out
              have f0 := FT.out
              exact StepI.stored (w' := wq.drew.setCell ⟨g, 12, none⟩ (.bool true)) rfl rfl (by go_simp) ⟨trivial, rfl⟩
          case done =>
            intro us w1 hI hd
            have hs2 : OpSt w w1 g sb { t with other := true } q A c := by
              have hw1 : w1 = wq.drew.setCell ⟨g, 12, none⟩ (.bool true) := hI
              rw [hw1]
              exact HS1.out.set 12 _ (enF_cases rfl rfl rfl rfl rfl rfl rfl rfl rfl rfl rfl rfl rfl rfl)
            have HS2 := Lib.hid hs2
            have c13 := hs2.r.c13
            have f13 := hs2.r.fr 13
            clear hd hI hs2 D CO CT CI FT HS1
            simp only [putAll]
            go_simp
            go_wp2
            go_end0
            have hs9 : OpSt w ((w1).setCell ⟨g, 13, none⟩ (.bool true)) g sb { t with owes := true, other := true } q A c := (HS2.out).set 13 _ (enF_cases rfl rfl rfl rfl rfl rfl rfl rfl rfl rfl rfl rfl rfl rfl)
            exact ⟨rfl, by rw [HRO.out]; exact hs9.r, hs9.chg⟩
      · have e4 : (q.t == 4) = false := by simpa using q4
        have hro : rOpenS t q now = { t with owes := true } := by unfold rOpenS; rw [if_neg q2, if_neg q3, if_neg q4]
        have HRO := Lib.hid hro
        have c13 := HS.out.r.c13
        have f13 := HS.out.r.fr 13
        clear hro q2 q3 q4 hinl hsq hdn d2 d4 c10
        go_wp2
        go_end0
        have hs9 : OpSt w ((w0).setCell ⟨g, 13, none⟩ (.bool true)) g sb { t with owes := true } q A c := (HS.out).set 13 _ (enF_cases rfl rfl rfl rfl rfl rfl rfl rfl rfl rfl rfl rfl rfl rfl)
        exact ⟨rfl, by rw [HRO.out]; exact hs9.r, hs9.chg⟩
theorem OpenPost.after {g : Nat} {t' : En} {w w1 w' : World} {e : Ending} (hc : Chg (fun k => k = g) w w1) (h : OpenPost g w1 t' e w') : OpenPost g w t' e w' :=
  ⟨h.1, h.2.1, hc.trans h.2.2 (fun _ _ h => h)⟩
set_option maxRecDepth 100000 in
set_option maxHeartbeats 8000000 in
theorem rin_any (g : Nat) (t : En) (s : ByteArray) (now : Int) (w : World) (h : RefAt g w t) (ho : EnOk t) (hsz : s.size ≤ 140737488351300) :
    Calls Try.prog 36 #[.pointer (some ⟨g, 0, none⟩), .string s, .int .i64 now] w (OpenPost g w (rInS t (bytesOf s) now)) := by
  have hP := refParse_all s w hsz
  have hbs : Bytes (bytesOf s) := fun x hx => by
    unfold bytesOf at hx
    obtain ⟨y, _, rfl⟩ := List.mem_map.1 hx
    have := y.toNat_lt
    omega
  have hgw := h.blk
  cases hp : parseB (bytesOf s)
  · have HE : Hid (rInS t (bytesOf s) now = t) := by show _ = _; unfold rInS; rw [hp]; rfl
    rw [hp] at hP
    have H := Lib.hid h
    generalize bytesOf s = b at *
    generalize parseX b = q at *
    clear hp h
    go_enter Try.func36, Try.ntmps36
    go_wp2_with fail
    refine hP.mono ?_
    rintro e w2 ⟨A2, c2, rfl, hI2, hb2⟩
    simp only [segV]
    have HC := Lib.hid (Chg.of_below (S := fun k => k = g) hb2)
    have HR := Lib.hid (H.out.below hb2)
    clear hP hI2 hb2
    go_wp2
    go_quiet (fail)
    go_wp2
    go_end0
    rw [HE.out]
    exact ⟨rfl, (HR.out.below ((Below.refl _ _).alloc (Nat.le_refl _) _)).drewN _, (HC.out.alloc _).drewN _⟩
  · have HE : Hid (rInS t (bytesOf s) now = rStepS t (parseS (bytesOf s)) now) := by show _ = _; unfold rInS; rw [hp]; rfl
    have hpx : parseX (bytesOf s) = parseS (bytesOf s) := by unfold parseX; rw [hp]; rfl
    have hdl : (parseS (bytesOf s)).data.length ≤ 400 := by
      have := of_decide_eq_true hp
      show (((bytesOf s).drop 15).take ((bytesOf s).length - 19)).length ≤ 400
      rw [List.length_take, List.length_drop]; omega
    have hdb := parseS_bytes (bytesOf s) hbs
    rw [hp, hpx] at hP
    have H := Lib.hid h
    generalize bytesOf s = b at *
    generalize parseS b = q at *
    clear hp hpx h
    go_enter Try.func36, Try.ntmps36
    go_wp2_with fail
    refine hP.mono ?_
    rintro e w2 ⟨A2, c2, rfl, hI2, hb2⟩
    simp only [segV]
    have hb3 : Below w.heap.size w (w2.alloc (.cells #[.int .i64 q.t, .int .i64 q.id, .int .i64 q.seq, .int .i64 q.ack, .slice A2 q.data.length c2] 24)) := hb2.alloc hb2.size _
    have hst : OpSt w (w2.alloc (.cells #[.int .i64 q.t, .int .i64 q.id, .int .i64 q.seq, .int .i64 q.ack, .slice A2 q.data.length c2] 24)) g w2.heap.size t q A2 c2 :=
      ⟨H.out.below hb3, cel_seg w2 q A2 c2, Chg.of_below hb3, by have := hb2.size; omega, hI2.below ((Below.refl _ _).alloc (Nat.le_refl _) _)⟩
    have hro : rStepS t q now = if q.id ≠ t.id ∨ t.st = 4 then t else if q.t = 5 then { t with st := 4 } else if t.st = 2 then listenS t q else if t.st = 1 then dialS t q else rOpenS t q now := rfl
    have HRO := Lib.hid hro
    go_upto_region 1 with (fail)
    generalize w2.alloc (.cells #[.int .i64 q.t, .int .i64 q.id, .int .i64 q.seq, .int .i64 q.ack, .slice A2 q.data.length c2] 24) = w3 at *
    generalize w2.heap.size = sb at *
    have HS := Lib.hid hst
    have d0 := hst.s.d0
    have d1 := hst.s.d1
    have d3 := hst.s.d3
    have c0 := hst.r.c0
    have c1 := hst.r.c1
    clear hP hI2 hb2 hb3 hst hro hgw
    by_cases k1 : q.id = t.id
    · have g1 : (q.id != t.id) = false := by simpa using k1
      by_cases k2 : t.st = 4
      · have g2 : (t.st == 4) = true := by simpa using k2
        have hr : rStepS t q now = t := by rw [HRO.out, if_pos (.inr k2)]
        have HR := Lib.hid hr
        clear hr HRO k1 k2
        go_wp2
        go_quiet (fail)
        go_wp2
        go_end0
        rw [HE.out, HR.out]
        exact ⟨rfl, HS.out.r.drewN _, HS.out.chg.drewN _⟩
      · have g2 : (t.st == 4) = false := by simpa using k2
        have hr : rStepS t q now = if q.t = 5 then { t with st := 4 } else if t.st = 2 then listenS t q else if t.st = 1 then dialS t q else rOpenS t q now := by rw [HRO.out, if_neg (fun h => h.elim (fun h => h k1) k2)]
        have HR0 := Lib.hid hr
        clear hr HRO k1
        go_upto_region 1 with (fail)
        go_cut [30] (fun v wx => v = .bool false ∧ OpSt w wx g sb t q A2 c2)
        case first =>
          go_wp2
          go_quiet (fail)
          go_wp2
          go_meet
          exact ⟨rfl, HS.out.drewN _⟩
        case rest =>
          obtain ⟨rfl, hst⟩ := hcut
          clear HS d0 d1 d3 c0 c1
          have HS := Lib.hid hst
          have d0 := hst.s.d0
          have d1 := hst.s.d1
          have d2 := hst.s.d2
          have d3 := hst.s.d3
          have d4 := hst.s.d4
          have c1 := hst.r.c1
          have f1 := hst.r.fr 1
          have c13 := hst.r.c13
          have f13 := hst.r.fr 13
          clear hst
          by_cases q5 : q.t = 5
          · have e5 : (q.t == 5) = true := by simpa using q5
            have HR : Hid (rStepS t q now = { t with st := 4 }) := by show _ = _; rw [HR0.out, if_pos q5]
            clear HR0 q5 k2
            go_wp2
            go_end0
            rw [HE.out, HR.out]
            have hs9 : OpSt w (wc.setCell ⟨g, 1, none⟩ (.int .i64 4)) g sb { t with st := 4 } q A2 c2 := HS.out.set 1 _ (enF_cases rfl rfl rfl rfl rfl rfl rfl rfl rfl rfl rfl rfl rfl rfl)
            exact ⟨rfl, hs9.r, hs9.chg⟩
          · have e5 : (q.t == 5) = false := by simpa using q5
            by_cases s2 : t.st = 2
            · have e2 : (t.st == 2) = true := by simpa using s2
              by_cases t1 : q.t = 1
              · have e1 : (q.t == 1) = true := by simpa using t1
                have HR : Hid (rStepS t q now = { t with st := 3, owes := true }) := by show _ = _; rw [HR0.out, if_neg q5, if_pos s2]; unfold listenS; rw [if_pos t1]
                clear HR0 q5 k2 s2 t1
                have hs8 : OpSt w (wc.setCell ⟨g, 1, none⟩ (.int .i64 3)) g sb { t with st := 3 } q A2 c2 := HS.out.set 1 _ (enF_cases rfl rfl rfl rfl rfl rfl rfl rfl rfl rfl rfl rfl rfl rfl)
                have HS8 := Lib.hid hs8
                clear hs8
                go_wp2
                go_end0
                rw [HE.out, HR.out]
                have hs9 : OpSt w ((wc.setCell ⟨g, 1, none⟩ (.int .i64 3)).setCell ⟨g, 13, none⟩ (.bool true)) g sb { t with st := 3, owes := true } q A2 c2 := HS8.out.set 13 _ (enF_cases rfl rfl rfl rfl rfl rfl rfl rfl rfl rfl rfl rfl rfl rfl)
                exact ⟨rfl, hs9.r, hs9.chg⟩
              · have e1 : (q.t == 1) = false := by simpa using t1
                have HR : Hid (rStepS t q now = t) := by show _ = _; rw [HR0.out, if_neg q5, if_pos s2]; unfold listenS; rw [if_neg t1]
                clear HR0 q5 k2 s2 t1
                go_wp2
                go_end0
                rw [HE.out, HR.out]
                exact ⟨rfl, HS.out.r, HS.out.chg⟩
            · have e2 : (t.st == 2) = false := by simpa using s2
              by_cases s1 : t.st = 1
              · have e1 : (t.st == 1) = true := by simpa using s1
                by_cases t2 : q.t = 2
                · have e3 : (q.t == 2) = true := by simpa using t2
                  by_cases a0 : q.ack = 0
                  · have e4 : (q.ack == 0) = true := by simpa using a0
                    have HR : Hid (rStepS t q now = { t with st := 3 }) := by show _ = _; rw [HR0.out, if_neg q5, if_neg s2, if_pos s1]; unfold dialS; rw [if_pos ⟨t2, a0⟩]
                    clear HR0 q5 k2 s2 s1 t2 a0
                    go_wp2
                    go_end0
                    rw [HE.out, HR.out]
                    have hs9 : OpSt w (wc.setCell ⟨g, 1, none⟩ (.int .i64 3)) g sb { t with st := 3 } q A2 c2 := HS.out.set 1 _ (enF_cases rfl rfl rfl rfl rfl rfl rfl rfl rfl rfl rfl rfl rfl rfl)
                    exact ⟨rfl, hs9.r, hs9.chg⟩
                  · have e4 : (q.ack == 0) = false := by simpa using a0
                    have HR : Hid (rStepS t q now = t) := by show _ = _; rw [HR0.out, if_neg q5, if_neg s2, if_pos s1]; unfold dialS; rw [if_neg (fun h => a0 h.2)]
                    clear HR0 q5 k2 s2 s1 t2 a0
                    go_wp2
                    go_end0
                    rw [HE.out, HR.out]
                    exact ⟨rfl, HS.out.r, HS.out.chg⟩
                · have e3 : (q.t == 2) = false := by simpa using t2
                  have HR : Hid (rStepS t q now = t) := by show _ = _; rw [HR0.out, if_neg q5, if_neg s2, if_pos s1]; unfold dialS; rw [if_neg (fun h => t2 h.1)]
                  clear HR0 q5 k2 s2 s1 t2
                  go_wp2
                  go_end0
                  rw [HE.out, HR.out]
                  exact ⟨rfl, HS.out.r, HS.out.chg⟩
              · have e1 : (t.st == 1) = false := by simpa using s1
                have HR : Hid (rStepS t q now = rOpenS t q now) := by show _ = _; rw [HR0.out, if_neg q5, if_neg s2, if_neg s1]
                have hop := ropen_any g t q A2 c2 now wc HS.out.r ho HS.out.i hdb hdl
                clear HR0 q5 k2 s2 s1
                go_wp2_with fail
                refine hop.mono ?_
                intro e w5 hp5
                have hp6 := hp5.after HS.out.chg
                obtain ⟨rfl, h6, h7⟩ := hp6
                clear hp5 hop
                go_wp2
                go_end0
                rw [HE.out, HR.out]
                exact ⟨rfl, h6, h7⟩
    · have g1 : (q.id != t.id) = true := by simpa using k1
      have hr : rStepS t q now = t := by rw [HRO.out, if_pos (.inl k1)]
      have HR := Lib.hid hr
      clear hr HRO k1
      go_wp2
      go_quiet (fail)
      go_wp2
      go_end0
      rw [HE.out, HR.out]
      exact ⟨rfl, HS.out.r.drewN _, HS.out.chg.drewN _⟩
end Go.Proofs.Ytoeipgbnjcgbjaa
