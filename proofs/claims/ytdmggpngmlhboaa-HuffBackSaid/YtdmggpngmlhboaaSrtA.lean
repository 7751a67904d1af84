/- The exchange of two stretches, and the turn of two that lie side by side. -/
import Derived.Test.YtdmggpngmlhboaaSrtI
namespace Go.Proofs.Ytdmggpngmlhboaa
open Go.RowKit
set_option linter.unusedVariables false
set_option linter.unusedSimpArgs false

theorem swap_parts {α : Type} (p x1 x2 q y1 y2 s : List α) (u v : α) : p ++ (y1 ++ u :: x2) ++ q ++ (x1 ++ v :: y2) ++ s = (p ++ y1) ++ u :: (x2 ++ q ++ x1) ++ v :: (y2 ++ s) := by simp
theorem swap_parts' {α : Type} (p x1 x2 q y1 y2 s : List α) (u v : α) : (p ++ y1) ++ v :: (x2 ++ q ++ x1) ++ u :: (y2 ++ s) = p ++ ((y1 ++ [v]) ++ x2) ++ q ++ ((x1 ++ [u]) ++ y2) ++ s := by simp
theorem cons_of {α : Type} {l : List α} {m : Nat} (h : l.length = m) (h0 : 0 < m) : ∃ u t, l = u :: t ∧ t.length = m - 1 := by
  cases l with
  | nil => simp at h; omega
  | cons u t => exact ⟨u, t, rfl, by simp at h; omega⟩
set_option maxRecDepth 100000 in
set_option maxHeartbeats 4000000 in
theorem swapRange_any (g off cap N a b n : Nat) (p x q y s : List El) (V : Value) (W : World) (hS : SRow W 76 2 encE g off cap (p ++ x ++ q ++ y ++ s)) (hN : (p ++ x ++ q ++ y ++ s).length = N) (ha : p.length = a) (hb : p.length + x.length + q.length = b) (hx : x.length = n) (hy : y.length = n) :
    Calls Try.prog 94 #[.slice (some ⟨g, off, none⟩) N cap, .int .i64 a, .int .i64 b, .int .i64 n, V] W (SrtPost g off cap (p ++ y ++ q ++ x ++ s) W) := by
  have hcap := hS.capLe
  unfold maxLen at hcap
  have hNc : N ≤ cap := by rw [← hN]; exact hcap.1
  have hcm : cap ≤ 9223372036854775807 := hcap.2
  have hlen : a + n + q.length + n + s.length = N := by simp at hN; omega
  have hb' : a + n + q.length = b := by omega
  have HS := Lib.hid (SrtAt.start hS)
  have HA := Lib.hid ha
  have HX := Lib.hid hx
  have HY := Lib.hid hy
  clear hS hN hcap ha hb hx hy
  go_enter Try.func94, Try.ntmps94
  go_wp2
  go_loopw [10] (fun i wr => ∃ (k : Nat) (x1 x2 y1 y2 : List El), i = .int .i64 k ∧ k ≤ n ∧ x = x1 ++ x2 ∧ y = y1 ++ y2 ∧ x1.length = k ∧ y1.length = k ∧ SrtAt W g off cap (p ++ (y1 ++ x2) ++ q ++ (x1 ++ y2) ++ s) wr) (fun i _ => n - (intOf i).toNat)
  case atStart => exact ⟨0, [], x, [], y, rfl, Nat.zero_le _, rfl, rfl, rfl, rfl, HS.out⟩
  case round =>
    obtain ⟨k, x1, x2, y1, y2, rfl, hk, rfl, rfl, h1, h2, hR⟩ := hrel
    have hx2 : x2.length = n - k := by have := HX.out; rw [List.length_append] at this; omega
    have hy2 : y2.length = n - k := by have := HY.out; rw [List.length_append] at this; omega
    by_cases hlt : k < n
    · obtain ⟨u, x2, rfl, hxl⟩ := cons_of hx2 (by omega)
      obtain ⟨v, y2, rfl, hyl⟩ := cons_of hy2 (by omega)
      rw [swap_parts] at hR
      obtain ⟨D, hD⟩ : ∃ D, D = (p ++ y1) ++ u :: (x2 ++ q ++ x1) ++ v :: (y2 ++ s) := ⟨_, rfl⟩
      have wa : IntKind.i64.wrap ((a : Int) + (k : Int)) = (a : Int) + (k : Int) := IntWalk.i64_in _ (by omega)
      have wb : IntKind.i64.wrap ((b : Int) + (k : Int)) = (b : Int) + (k : Int) := IntWalk.i64_in _ (by omega)
      have a0 : (0 : Int) ≤ (a : Int) + (k : Int) := by omega
      have a1 : (a : Int) + (k : Int) < (N : Int) := by omega
      have a2 : ((a : Int) + (k : Int)).toNat = a + k := by omega
      have b0 : (0 : Int) ≤ (b : Int) + (k : Int) := by omega
      have b1 : (b : Int) + (k : Int) < (N : Int) := by omega
      have b2 : ((b : Int) + (k : Int)).toNat = b + k := by omega
      have hli : D[a + k]? = some u := by
        have := at_1 (p ++ y1) (x2 ++ q ++ x1) (y2 ++ s) u v
        rw [hD, show a + k = (p ++ y1).length by rw [List.length_append, HA.out, h2]]; exact this
      have hlj : D[b + k]? = some v := by
        have := at_2 (p ++ y1) (x2 ++ q ++ x1) (y2 ++ s) u v
        rw [hD, show b + k = (p ++ y1).length + 1 + (x2 ++ q ++ x1).length by simp only [List.length_append]; have := HA.out; omega]; exact this
      have hset : (D.set (a + k) v).set (b + k) u = p ++ ((y1 ++ [v]) ++ x2) ++ q ++ ((x1 ++ [u]) ++ y2) ++ s := by
        have := set_set (p ++ y1) (x2 ++ q ++ x1) (y2 ++ s) u v
        rw [hD, show a + k = (p ++ y1).length by rw [List.length_append, HA.out, h2], show b + k = (p ++ y1).length + 1 + (x2 ++ q ++ x1).length by simp only [List.length_append]; have := HA.out; omega, this, swap_parts']
      rw [← hD] at hR
      have HS := Lib.hid (hR.drew)
      have hli := Lib.hid hli
      have hlj := Lib.hid hlj
      have HSET := Lib.hid hset
      have H1 := Lib.hid h1
      have H2 := Lib.hid h2
      clear hR hset hD h1 h2 hx2 hy2
      go_upto_region 3 with (fail)
      refine wp_region_ph (by kernel_rfl) [21, 23] [.span 0 0, .span 0 0, .span 0 0, .span 0 0, .span 0 1, .span 0 1, .span 0 1, .span 0 1, .span 0 0, .span 0 0, .span 0 0, .span 0 0, .span 0 0, .span 0 0, .span 0 0, .span 0 0, .span 0 0, .span 0 0, .span 0 0, .span 0 0, .span 0 0, .phase 0, .span 1 1, .phase 1] [fun z9 => z9 = .slice (some ⟨g, off, none⟩) N cap, fun z9 => z9 = .int .i64 a, fun z9 => z9 = .int .i64 k, fun z9 => z9 = .int .i64 (a + k), fun z9 => z9 = .slice (some ⟨g, off, none⟩) N cap, fun z9 => z9 = .int .i64 b, fun z9 => z9 = .int .i64 k, fun z9 => z9 = .int .i64 (b + k), fun z9 => z9 = .slice (some ⟨g, off, none⟩) N cap, fun z9 => z9 = .int .i64 b, fun z9 => z9 = .int .i64 k, fun z9 => z9 = .int .i64 (b + k), fun z9 => z9 = .pointer (some ⟨g, off + (b + k) * 2, none⟩), fun z9 => z9 = .agg #[.int .i64 v.w, .slice v.A v.n v.c], fun z9 => z9 = .slice (some ⟨g, off, none⟩) N cap, fun z9 => z9 = .int .i64 a, fun z9 => z9 = .int .i64 k, fun z9 => z9 = .int .i64 (a + k), fun z9 => z9 = .pointer (some ⟨g, off + (a + k) * 2, none⟩), fun z9 => z9 = .agg #[.int .i64 u.w, .slice u.A u.n u.c], fun z9 => z9 = .pointer (some ⟨g, off + (a + k) * 2, none⟩), fun _ => True, fun z9 => z9 = .pointer (some ⟨g, off + (b + k) * 2, none⟩), fun _ => True] (ISwap W g off cap (a + k) (b + k) u v (D)) (by kernel_rfl) (by kernel_rfl) (by kernel_rfl) (by kernel_rfl) (by kernel_rfl) (by kernel_rfl) rfl rfl (HS.out) ?steps ?done
      case steps =>
        refine ⟨?_, ?_, ?_, ?_, ?_, ?_, ?_, ?_, ?_, ?_, ?_, ?_, ?_, ?_, ?_, ?_, ?_, ?_, ?_, ?_, ?_, ?_, ?_, ?_, trivial⟩
        · intro us au w1 k0 hlo hhi ha hd hst hI
          obtain rfl : k0 = 0 := by omega
          have q0 := slot_far (t := 0) (v := .slice (some ⟨g, off, none⟩) N cap) ha (by kernel_rfl) (by kernel_rfl)
          have p0 := slot_norm q0
          clear ha hd hst
          exact StepI.pure (v := .slice (some ⟨g, off, none⟩) N cap) rfl rfl (by go_simp) ⟨rfl, hI⟩
        · intro us au w1 k1 hlo hhi ha hd hst hI
          obtain rfl : k1 = 0 := by omega
          have q1 := slot_far (t := 1) (v := .int .i64 a) ha (by kernel_rfl) (by kernel_rfl)
          have p1 := slot_norm q1
          clear ha hd hst
          exact StepI.pure (v := .int .i64 a) rfl rfl (by go_simp) ⟨rfl, hI⟩
        · intro us au w1 k2 hlo hhi ha hd hst hI
          obtain rfl : k2 = 0 := by omega
          have q10 := slot_far (t := 10) (v := .int .i64 k) ha (by kernel_rfl) (by kernel_rfl)
          have p10 := slot_norm q10
          clear ha hd hst
          exact StepI.pure (v := .int .i64 k) rfl rfl (by go_simp) ⟨rfl, hI⟩
        · intro us au w1 k3 hlo hhi ha hd hst hI
          obtain rfl : k3 = 0 := by omega
          have e1 := hd 1 _ (by kernel_rfl) rfl
          have e2 := hd 2 _ (by kernel_rfl) rfl
          have q17 := slot_at (t := 17) 1 ha (by kernel_rfl) (by kernel_rfl) (by kernel_rfl) e1
          have p17 := slot_norm q17
          have q18 := slot_at (t := 18) 2 ha (by kernel_rfl) (by kernel_rfl) (by kernel_rfl) e2
          have p18 := slot_norm q18
          clear ha hd hst
          exact StepI.pure (v := .int .i64 (a + k)) rfl rfl (by go_simp) ⟨rfl, hI⟩
        · intro us au w1 k4 hlo hhi ha hd hst hI
          have q0 := slot_far (t := 0) (v := .slice (some ⟨g, off, none⟩) N cap) ha (by kernel_rfl) (by kernel_rfl)
          have p0 := slot_norm q0
          clear ha hd hst
          exact StepI.pure (v := .slice (some ⟨g, off, none⟩) N cap) rfl rfl (by go_simp) ⟨rfl, hI⟩
        · intro us au w1 k5 hlo hhi ha hd hst hI
          have q2 := slot_far (t := 2) (v := .int .i64 b) ha (by kernel_rfl) (by kernel_rfl)
          have p2 := slot_norm q2
          clear ha hd hst
          exact StepI.pure (v := .int .i64 b) rfl rfl (by go_simp) ⟨rfl, hI⟩
        · intro us au w1 k6 hlo hhi ha hd hst hI
          have q10 := slot_far (t := 10) (v := .int .i64 k) ha (by kernel_rfl) (by kernel_rfl)
          have p10 := slot_norm q10
          clear ha hd hst
          exact StepI.pure (v := .int .i64 k) rfl rfl (by go_simp) ⟨rfl, hI⟩
        · intro us au w1 k7 hlo hhi ha hd hst hI
          have e5 := hd 5 _ (by kernel_rfl) rfl
          have e6 := hd 6 _ (by kernel_rfl) rfl
          have q21 := slot_at (t := 21) 5 ha (by kernel_rfl) (by kernel_rfl) (by kernel_rfl) e5
          have p21 := slot_norm q21
          have q22 := slot_at (t := 22) 6 ha (by kernel_rfl) (by kernel_rfl) (by kernel_rfl) e6
          have p22 := slot_norm q22
          clear ha hd hst
          exact StepI.pure (v := .int .i64 (b + k)) rfl rfl (by go_simp) ⟨rfl, hI⟩
        · intro us au w1 k8 hlo hhi ha hd hst hI
          obtain rfl : k8 = 0 := by omega
          have q0 := slot_far (t := 0) (v := .slice (some ⟨g, off, none⟩) N cap) ha (by kernel_rfl) (by kernel_rfl)
          have p0 := slot_norm q0
          clear ha hd hst
          exact StepI.pure (v := .slice (some ⟨g, off, none⟩) N cap) rfl rfl (by go_simp) ⟨rfl, hI⟩
        · intro us au w1 k9 hlo hhi ha hd hst hI
          obtain rfl : k9 = 0 := by omega
          have q2 := slot_far (t := 2) (v := .int .i64 b) ha (by kernel_rfl) (by kernel_rfl)
          have p2 := slot_norm q2
          clear ha hd hst
          exact StepI.pure (v := .int .i64 b) rfl rfl (by go_simp) ⟨rfl, hI⟩
        · intro us au w1 k10 hlo hhi ha hd hst hI
          obtain rfl : k10 = 0 := by omega
          have q10 := slot_far (t := 10) (v := .int .i64 k) ha (by kernel_rfl) (by kernel_rfl)
          have p10 := slot_norm q10
          clear ha hd hst
          exact StepI.pure (v := .int .i64 k) rfl rfl (by go_simp) ⟨rfl, hI⟩
        · intro us au w1 k11 hlo hhi ha hd hst hI
          obtain rfl : k11 = 0 := by omega
          have e9 := hd 9 _ (by kernel_rfl) rfl
          have e10 := hd 10 _ (by kernel_rfl) rfl
          have q25 := slot_at (t := 25) 9 ha (by kernel_rfl) (by kernel_rfl) (by kernel_rfl) e9
          have p25 := slot_norm q25
          have q26 := slot_at (t := 26) 10 ha (by kernel_rfl) (by kernel_rfl) (by kernel_rfl) e10
          have p26 := slot_norm q26
          clear ha hd hst
          exact StepI.pure (v := .int .i64 (b + k)) rfl rfl (by go_simp) ⟨rfl, hI⟩
        · intro us au w1 k12 hlo hhi ha hd hst hI
          obtain rfl : k12 = 0 := by omega
          have e8 := hd 8 _ (by kernel_rfl) rfl
          have e11 := hd 11 _ (by kernel_rfl) rfl
          have q24 := slot_at (t := 24) 8 ha (by kernel_rfl) (by kernel_rfl) (by kernel_rfl) e8
          have p24 := slot_norm q24
          have q27 := slot_at (t := 27) 11 ha (by kernel_rfl) (by kernel_rfl) (by kernel_rfl) e11
          have p27 := slot_norm q27
          clear ha hd hst
          exact StepI.pure (v := .pointer (some ⟨g, off + (b + k) * 2, none⟩)) rfl rfl (by go_simp) ⟨rfl, hI⟩
        · intro us au w1 k13 hlo hhi ha hd hst hI
          obtain rfl : k13 = 0 := by omega
          have e12 := hd 12 _ (by kernel_rfl) rfl
          have q28 := slot_at (t := 28) 12 ha (by kernel_rfl) (by kernel_rfl) (by kernel_rfl) e12
          have p28 := slot_norm q28
          clear ha hd hst
          have c0 := SrtAt.c0 hI hlj.out
          have c1 := SrtAt.c1 hI hlj.out
          exact StepI.pure (v := .agg #[.int .i64 v.w, .slice v.A v.n v.c]) rfl rfl (by go_simp) ⟨rfl, hI⟩
        · intro us au w1 k14 hlo hhi ha hd hst hI
          obtain rfl : k14 = 0 := by omega
          have q0 := slot_far (t := 0) (v := .slice (some ⟨g, off, none⟩) N cap) ha (by kernel_rfl) (by kernel_rfl)
          have p0 := slot_norm q0
          clear ha hd hst
          exact StepI.pure (v := .slice (some ⟨g, off, none⟩) N cap) rfl rfl (by go_simp) ⟨rfl, hI⟩
        · intro us au w1 k15 hlo hhi ha hd hst hI
          obtain rfl : k15 = 0 := by omega
          have q1 := slot_far (t := 1) (v := .int .i64 a) ha (by kernel_rfl) (by kernel_rfl)
          have p1 := slot_norm q1
          clear ha hd hst
          exact StepI.pure (v := .int .i64 a) rfl rfl (by go_simp) ⟨rfl, hI⟩
        · intro us au w1 k16 hlo hhi ha hd hst hI
          obtain rfl : k16 = 0 := by omega
          have q10 := slot_far (t := 10) (v := .int .i64 k) ha (by kernel_rfl) (by kernel_rfl)
          have p10 := slot_norm q10
          clear ha hd hst
          exact StepI.pure (v := .int .i64 k) rfl rfl (by go_simp) ⟨rfl, hI⟩
        · intro us au w1 k17 hlo hhi ha hd hst hI
          obtain rfl : k17 = 0 := by omega
          have e15 := hd 15 _ (by kernel_rfl) rfl
          have e16 := hd 16 _ (by kernel_rfl) rfl
          have q31 := slot_at (t := 31) 15 ha (by kernel_rfl) (by kernel_rfl) (by kernel_rfl) e15
          have p31 := slot_norm q31
          have q32 := slot_at (t := 32) 16 ha (by kernel_rfl) (by kernel_rfl) (by kernel_rfl) e16
          have p32 := slot_norm q32
          clear ha hd hst
          exact StepI.pure (v := .int .i64 (a + k)) rfl rfl (by go_simp) ⟨rfl, hI⟩
        · intro us au w1 k18 hlo hhi ha hd hst hI
          obtain rfl : k18 = 0 := by omega
          have e14 := hd 14 _ (by kernel_rfl) rfl
          have e17 := hd 17 _ (by kernel_rfl) rfl
          have q30 := slot_at (t := 30) 14 ha (by kernel_rfl) (by kernel_rfl) (by kernel_rfl) e14
          have p30 := slot_norm q30
          have q33 := slot_at (t := 33) 17 ha (by kernel_rfl) (by kernel_rfl) (by kernel_rfl) e17
          have p33 := slot_norm q33
          clear ha hd hst
          exact StepI.pure (v := .pointer (some ⟨g, off + (a + k) * 2, none⟩)) rfl rfl (by go_simp) ⟨rfl, hI⟩
        · intro us au w1 k19 hlo hhi ha hd hst hI
          obtain rfl : k19 = 0 := by omega
          have e18 := hd 18 _ (by kernel_rfl) rfl
          have q34 := slot_at (t := 34) 18 ha (by kernel_rfl) (by kernel_rfl) (by kernel_rfl) e18
          have p34 := slot_norm q34
          clear ha hd hst
          have c0 := SrtAt.c0 hI hli.out
          have c1 := SrtAt.c1 hI hli.out
          exact StepI.pure (v := .agg #[.int .i64 u.w, .slice u.A u.n u.c]) rfl rfl (by go_simp) ⟨rfl, hI⟩
        · intro us au w1 k20 hlo hhi ha hd hst hI
          obtain rfl : k20 = 0 := by omega
          have e0 := hd 0 _ (by kernel_rfl) rfl
          have e3 := hd 3 _ (by kernel_rfl) rfl
          have q16 := slot_at (t := 16) 0 ha (by kernel_rfl) (by kernel_rfl) (by kernel_rfl) e0
          have p16 := slot_norm q16
          have q19 := slot_at (t := 19) 3 ha (by kernel_rfl) (by kernel_rfl) (by kernel_rfl) e3
          have p19 := slot_norm q19
          clear ha hd hst
          exact StepI.pure (v := .pointer (some ⟨g, off + (a + k) * 2, none⟩)) rfl rfl (by go_simp) ⟨rfl, hI⟩
        · intro us au w1 ha hd hst hI
          have e20 := hd 20 _ (by kernel_rfl) rfl
          have e13 := hd 13 _ (by kernel_rfl) rfl
          have q36 := slot_at (t := 36) 20 ha (by kernel_rfl) (by kernel_rfl) (by kernel_rfl) e20
          have p36 := slot_norm q36
          have q29 := slot_at (t := 29) 13 ha (by kernel_rfl) (by kernel_rfl) (by kernel_rfl) e13
          have p29 := slot_norm q29
          clear ha hd hst
          have hlt : a + k < (D).length := (List.getElem?_eq_some_iff.1 hli.out).1
          have hx := hli.out
          have c0 := SrtAt.c0 hI hx
          have c1 := SrtAt.c1 hI hx
          have f0 := SrtAt.f0 hI hlt
          have f1 := SrtAt.f1 hI hlt
          exact StepI.stored (w' := putCells w1 g (off + (a + k) * 2) (encE v)) rfl rfl (by simp only [putCells, encE]; go_simp) ⟨trivial, SrtAt.put hI hlt v⟩
        · intro us au w1 k22 hlo hhi ha hd hst hI
          obtain rfl : k22 = 1 := by omega
          have e4 := hd 4 _ (by kernel_rfl) rfl
          have e7 := hd 7 _ (by kernel_rfl) rfl
          have q20 := slot_at (t := 20) 4 ha (by kernel_rfl) (by kernel_rfl) (by kernel_rfl) e4
          have p20 := slot_norm q20
          have q23 := slot_at (t := 23) 7 ha (by kernel_rfl) (by kernel_rfl) (by kernel_rfl) e7
          have p23 := slot_norm q23
          clear ha hd hst
          exact StepI.pure (v := .pointer (some ⟨g, off + (b + k) * 2, none⟩)) rfl rfl (by go_simp) ⟨rfl, hI⟩
        · intro us au w1 ha hd hst hI
          have e22 := hd 22 _ (by kernel_rfl) rfl
          have e19 := hd 19 _ (by kernel_rfl) rfl
          have q37 := slot_at (t := 37) 22 ha (by kernel_rfl) (by kernel_rfl) (by kernel_rfl) e22
          have p37 := slot_norm q37
          have q35 := slot_at (t := 35) 19 ha (by kernel_rfl) (by kernel_rfl) (by kernel_rfl) e19
          have p35 := slot_norm q35
          clear ha hd hst
          have hlt : b + k < ((D).set (a + k) v).length := by rw [List.length_set]; exact (List.getElem?_eq_some_iff.1 hlj.out).1
          have hx : ((D).set (a + k) v)[b + k]? = some v := by rw [List.getElem?_set_ne (by omega)]; exact hlj.out
          have c0 := SrtAt.c0 hI hx
          have c1 := SrtAt.c1 hI hx
          have f0 := SrtAt.f0 hI hlt
          have f1 := SrtAt.f1 hI hlt
          exact StepI.stored (w' := putCells w1 g (off + (b + k) * 2) (encE u)) rfl rfl (by simp only [putCells, encE]; go_simp) ⟨trivial, SrtAt.put hI hlt u⟩
      case done =>
        intro us w1 hI hd
        clear hd hli hlj HS
        simp only [putAll]
        go_simp
        go_wp2
        go_roundw
        case rel => exact ⟨k + 1, x1 ++ [u], x2, y1 ++ [v], y2, by go_num, by omega, by simp, by simp, by rw [List.length_append, H1.out]; rfl, by rw [List.length_append, H2.out]; rfl, by rw [← HSET.out]; exact hI⟩
        case measure => simp [intOf]; omega
    · obtain rfl : k = n := by omega
      obtain rfl : x2 = [] := List.eq_nil_of_length_eq_zero (by omega)
      obtain rfl : y2 = [] := List.eq_nil_of_length_eq_zero (by omega)
      have HR := Lib.hid hR
      clear hR h1 h2 hx2 hy2
      go_wp2
      go_end0
      have := HR.out
      simp only [List.append_nil] at this ⊢
      exact ⟨rfl, this.1, this.2⟩

theorem split_at {α : Type} (l : List α) (n : Nat) (h : n ≤ l.length) : ∃ a b, l = a ++ b ∧ a.length = n ∧ b.length = l.length - n := ⟨l.take n, l.drop n, (List.take_append_drop n l).symm, by rw [List.length_take]; omega, by rw [List.length_drop]⟩
set_option maxRecDepth 100000 in
set_option maxHeartbeats 4000000 in
theorem rotate_any (g off cap N a m b : Nat) (p u v s : List El) (V : Value) (W : World) (hS : SRow W 76 2 encE g off cap (p ++ u ++ v ++ s)) (hN : (p ++ u ++ v ++ s).length = N) (ha : p.length = a) (hm : a + u.length = m) (hb : m + v.length = b) (hu : 0 < u.length) (hv : 0 < v.length) :
    Calls Try.prog 89 #[.slice (some ⟨g, off, none⟩) N cap, .int .i64 a, .int .i64 m, .int .i64 b, V] W (SrtPost g off cap (p ++ v ++ u ++ s) W) := by
  have hcap := hS.capLe
  unfold maxLen at hcap
  have hNc : N ≤ cap := by rw [← hN]; exact hcap.1
  have hcm : cap ≤ 9223372036854775807 := hcap.2
  have hlen : b + s.length = N := by simp at hN; omega
  obtain ⟨i, hi⟩ : ∃ i, u.length = i := ⟨_, rfl⟩
  obtain ⟨j, hj⟩ : ∃ j, v.length = j := ⟨_, rfl⟩
  have HS := Lib.hid (SrtAt.start hS)
  have HN := Lib.hid hN
  have w1 : (m : Int) - (a : Int) = (i : Int) := by omega
  have w2 : (b : Int) - (m : Int) = (j : Int) := by omega
  have hi0 : 0 < i := by omega
  have hj0 : 0 < j := by omega
  have HI := Lib.hid hi
  have HJ := Lib.hid hj
  have hai : m = a + i := by omega
  have HAI := Lib.hid hai
  have HA := Lib.hid ha
  have hbb : m + j = b := by omega
  have HBB := Lib.hid hbb
  clear hS hN hcap hi hj hm ha hai hbb hb hu hv
  have hmb : m ≤ N := by have := HBB.out; omega
  have ham : a ≤ m := by have := HAI.out; omega
  have hbN : b ≤ N := by omega
  go_enter Try.func89, Try.ntmps89
  go_wp2
  clear w1 w2
  go_loopw [10, 11] (fun i j wr => ∃ (x y pl : Nat) (P U R T : List El), i = .int .i64 x ∧ j = .int .i64 y ∧ 0 < x ∧ 0 < y ∧ U.length = x ∧ R.length = y ∧ P.length = pl ∧ pl + x = m ∧ m + y ≤ N ∧ (P ++ U ++ R ++ T).length = N ∧ SrtAt W g off cap (P ++ U ++ R ++ T) wr ∧ P ++ R ++ U ++ T = p ++ v ++ u ++ s) (fun i j _ => (intOf i).toNat + (intOf j).toNat)
  case atStart => exact ⟨i, j, a, p, u, v, s, rfl, rfl, hi0, hj0, HI.out, HJ.out, HA.out, HAI.out.symm, by have := HBB.out; omega, HN.out, HS.out, rfl⟩
  case round =>
    clear HS HN HI HJ HA HAI HBB hi0 hj0 hlen
    obtain ⟨x, y, pl, P, U, R, T, rfl, rfl, hx0, hy0, hU, hR, hP, hplx, hmy, hL, hAt, hT⟩ := hrel
    have HT := Lib.hid hT
    have HL := Lib.hid hL
    have HAt := Lib.hid hAt
    have HU := Lib.hid hU
    have HR := Lib.hid hR
    have HP := Lib.hid hP
    clear hT hL hAt hU hR hP
    have e1 : (m : Int) - (x : Int) = (pl : Int) := by omega
    by_cases hxy : x = y
    · subst hxy
      have d1 : ((x : Int) != (x : Int)) = false := by simp
      have hc := swapRange_any g off cap N pl m x P U [] R T V wr (by have := HAt.out.2; rw [List.append_nil]; exact this) (by rw [List.append_nil]; exact HL.out) HP.out (by rw [HP.out, HU.out]; exact hplx) HU.out HR.out
      go_wp2_with (go_at_call 94; refine hc.mono ?_; rintro e w5 ⟨rfl, hc5, hs5⟩)
      go_end0
      have h1 := HAt.out.1.trans hc5 (fun _ _ h => h)
      rw [List.append_nil, HT.out] at hs5
      exact ⟨rfl, h1, hs5⟩
    · have d1 : ((x : Int) != (y : Int)) = true := by rw [bne_iff_ne]; omega
      by_cases hlt : y < x
      · have d2 : decide ((y : Int) < (x : Int)) = true := decide_eq_true (by omega)
        have d3 : decide (y < x) = true := decide_eq_true hlt
        obtain ⟨U1, U2, rfl, h1, h2⟩ := split_at U y (by rw [HU.out]; omega)
        have e2 : (x : Int) - (y : Int) = ((x - y : Nat) : Int) := by omega
        have hc := swapRange_any g off cap N pl m y P U1 U2 R T V wr (by have := HAt.out.2; rwa [← List.append_assoc] at this) (by have := HL.out; rwa [← List.append_assoc] at this) HP.out (by rw [HP.out]; have := HU.out; rw [List.length_append] at this; omega) h1 HR.out
        have H1 := Lib.hid h1
        have H2 := Lib.hid h2
        clear h1 h2 hxy
        go_wp2_with (go_at_call 94; refine hc.mono ?_; rintro e w5 ⟨rfl, hc5, hs5⟩)
        go_roundw
        case rel =>
          refine ⟨x - y, y, pl + y, P ++ R, U2, U1, T, rfl, rfl, by omega, hy0, by rw [H2.out, HU.out], H1.out, by rw [List.length_append, HP.out, HR.out], by omega, by omega, ?_, ⟨HAt.out.1.trans hc5 (fun _ _ h => h), hs5⟩, ?_⟩
          · have := HL.out; simp only [List.length_append] at this ⊢; omega
          · rw [← HT.out]; simp only [List.append_assoc]
        case measure => simp [intOf]; omega
      · have d2 : decide ((y : Int) < (x : Int)) = false := decide_eq_false (by omega)
        have d3 : decide (y < x) = false := decide_eq_false hlt
        obtain ⟨V1, V2, rfl, h1, h2⟩ := split_at R (y - x) (by rw [HR.out]; omega)
        rw [HR.out] at h2
        have hlt' : x < y := by omega
        have e2 : (y : Int) - (x : Int) = ((y - x : Nat) : Int) := by omega
        have e3 : (m : Int) + (y : Int) - (x : Int) = ((m + y - x : Nat) : Int) := by omega
        have hc := swapRange_any g off cap N pl (m + y - x) x P U V1 V2 T V wr (by have := HAt.out.2; simpa only [List.append_assoc] using this) (by have := HL.out; simpa only [List.append_assoc] using this) HP.out (by rw [HP.out, HU.out, h1]; omega) HU.out (by rw [h2]; omega)
        have H1 := Lib.hid h1
        have H2 := Lib.hid h2
        clear h1 h2 hxy
        go_wp2_with (go_at_call 94; refine hc.mono ?_; rintro e w5 ⟨rfl, hc5, hs5⟩)
        go_roundw
        case rel =>
          refine ⟨x, y - x, pl, P, V2, V1, U ++ T, rfl, rfl, hx0, by omega, by rw [H2.out]; omega, H1.out, HP.out, hplx, by omega, ?_, ⟨HAt.out.1.trans hc5 (fun _ _ h => h), by have := hs5; simpa only [List.append_assoc] using this⟩, ?_⟩
          · have := HL.out; simp only [List.length_append] at this ⊢; omega
          · rw [← HT.out]; simp only [List.append_assoc]
        case measure => simp [intOf]; omega
end Go.Proofs.Ytdmggpngmlhboaa
