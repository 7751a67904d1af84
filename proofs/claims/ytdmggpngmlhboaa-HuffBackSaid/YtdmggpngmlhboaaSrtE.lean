/- symMerge: both stretches are cut, turned, and merged. -/
import Derived.Test.YtdmggpngmlhboaaSrtD
namespace Go.Proofs.Ytdmggpngmlhboaa
open Go.RowKit
set_option linter.unusedVariables false
set_option linter.unusedSimpArgs false

theorem SrtAt.eq {W w : World} {g off cap : Nat} {L L' : List El} (h : SrtAt W g off cap L w) (e : L = L') : SrtAt W g off cap L' w := e ▸ h
/-- What the search has found: the parts that stay ahead are no greater than those behind. -/
theorem split_ok {α : Type} {lt : α → α → Bool} (h : Srt.Swo lt) {u1 u2 v1 v2 : List α} (hu : Srt.Sorted lt (u1 ++ u2)) (hv : Srt.Sorted lt (v1 ++ v2))
    (h1 : u1 = [] ∨ v2 = [] ∨ ∃ x y, u1[u1.length - 1]? = some x ∧ v2[0]? = some y ∧ lt y x = false)
    (h2 : u2 = [] ∨ v1 = [] ∨ ∃ x y, u2[0]? = some x ∧ v1[v1.length - 1]? = some y ∧ lt y x = true) :
    (∀ x ∈ u1, ∀ y ∈ v2, lt y x = false) ∧ (∀ x ∈ u2, ∀ y ∈ v1, lt y x = true) := by
  refine ⟨?_, ?_⟩
  · rcases h1 with rfl | rfl | ⟨x', y', hx', hy', hxy⟩
    · intro x hx; cases hx
    · intro x _ y hy; cases hy
    · intro x hx y hy
      have e1 : lt x' x = false := by
        obtain ⟨t, z, rfl, _⟩ := last_of (List.length_pos_of_mem hx)
        have hz : z = x' := by
          rw [List.length_append] at hx'
          simp at hx'
          exact hx'
        subst hz
        have hs := Srt.Sorted.left hu
        rcases List.mem_append.1 hx with hx | hx
        · exact (List.pairwise_append.1 hs).2.2 x hx z (by simp)
        · rw [List.mem_singleton.1 hx]; exact h.irr _
      have e2 : lt y y' = false := by
        cases v2 with
        | nil => cases hy
        | cons z t =>
          simp at hy'
          subst hy'
          rcases List.mem_cons.1 hy with rfl | hy
          · exact h.irr _
          · exact (List.pairwise_cons.1 (Srt.Sorted.right hv)).1 y hy
      exact h.co x y' y (h.co x x' y' e1 hxy) e2
  · rcases h2 with rfl | rfl | ⟨x', y', hx', hy', hxy⟩
    · intro x hx; cases hx
    · intro x _ y hy; cases hy
    · intro x hx y hy
      have e1 : lt x x' = false := by
        cases u2 with
        | nil => cases hx
        | cons z t =>
          simp at hx'
          subst hx'
          rcases List.mem_cons.1 hx with rfl | hx
          · exact h.irr _
          · exact (List.pairwise_cons.1 (Srt.Sorted.right hu)).1 x hx
      have e2 : lt y' y = false := by
        obtain ⟨t, z, rfl, _⟩ := last_of (List.length_pos_of_mem hy)
        have hz : z = y' := by
          rw [List.length_append] at hy'
          simp at hy'
          exact hy'
        subst hz
        have hs := Srt.Sorted.left hv
        rcases List.mem_append.1 hy with hy | hy
        · exact (List.pairwise_append.1 hs).2.2 y hy z (by simp)
        · rw [List.mem_singleton.1 hy]; exact h.irr _
      cases hyx : lt y x
      · have := h.co x' y y' (h.co x' x y e1 hyx) e2
        rw [hxy] at this; cases this
      · rfl
/-- What is asked of a call of symMerge. -/
def SymOk (d : Nat) : Prop :=
  ∀ (g off cap N a m b : Nat) (p u v s : List El) (W : World), b - a ≤ d → SRow W 76 2 encE g off cap (p ++ u ++ v ++ s) → (p ++ u ++ v ++ s).length = N → p.length = a → a + u.length = m → m + v.length = b → 0 < u.length → 0 < v.length →
    Srt.Sorted ltE u → Srt.Sorted ltE v → (∀ x ∈ u, okE x) → (∀ x ∈ v, okE x) → N ≤ 140737488355328 →
    Calls Try.prog 81 #[.slice (some ⟨g, off, none⟩) N cap, .int .i64 a, .int .i64 m, .int .i64 b, .func (.func 32) #[] #[]] W (SrtPost g off cap (p ++ Srt.mrg ltE u v ++ s) W)
theorem sym_rest {N a m b st M Q P1 E : Nat} {D p u v s : List El} (hD : D = p ++ u ++ v ++ s) (hN : (p ++ u ++ v ++ s).length = N) (ha : p.length = a) (hm : a + u.length = m) (hb : m + v.length = b) (hu : Srt.Sorted ltE u) (hv : Srt.Sorted ltE v)
    (hou : ∀ x ∈ u, okE x) (hov : ∀ x ∈ v, okE x) (hNb : N ≤ 140737488355328) (hIH : SymOk (b - a - 1)) (hau : ∀ (i : Nat) (x : El), u[i]? = some x → D[a + i]? = some x) (hav : ∀ (i : Nat) (x : El), v[i]? = some x → D[m + i]? = some x)
    (hM : M = (a + b) / 2) (hQ : Q = M + m) (hE : E = Q - st) (hQ1 : P1 + 1 = Q) (b1 : a ≤ st) (b2 : st ≤ m) (b3 : st ≤ M) (b4 : Q ≤ st + b) (hab : a + 2 ≤ b)
    (c1 : st = a ∨ st + b = Q ∨ ∃ x y, D[st - 1]? = some x ∧ D[Q - st]? = some y ∧ ltE y x = false) (c2 : st = m ∨ st = M ∨ ∃ x y, D[st]? = some x ∧ D[P1 - st]? = some y ∧ ltE y x = true) (W : World) (g off cap : Nat) :
    ∃ D1 D2 : List El, m ≤ E ∧ E ≤ b ∧ E + st = M + m ∧
      Hid (st < m → m < E → ∀ w, SrtAt W g off cap D w → Calls Try.prog 89 #[.slice (some ⟨g, off, none⟩) N cap, .int .i64 st, .int .i64 m, .int .i64 E, .func (.func 32) #[] #[]] w fun e w' => e = .returned (.tuple #[]) ∧ SrtAt W g off cap D1 w') ∧
      Hid (a < st → m < E → ∀ w, SrtAt W g off cap D1 w → Calls Try.prog 81 #[.slice (some ⟨g, off, none⟩) N cap, .int .i64 a, .int .i64 st, .int .i64 M, .func (.func 32) #[] #[]] w fun e w' => e = .returned (.tuple #[]) ∧ SrtAt W g off cap D2 w') ∧
      Hid (st < m → E < b → ∀ w, SrtAt W g off cap D2 w → Calls Try.prog 81 #[.slice (some ⟨g, off, none⟩) N cap, .int .i64 M, .int .i64 E, .int .i64 b, .func (.func 32) #[] #[]] w fun e w' => e = .returned (.tuple #[]) ∧ SrtAt W g off cap (p ++ Srt.mrg ltE u v ++ s) w') ∧
      Hid (¬ (st < m ∧ m < E) → D = D1) ∧ Hid (¬ (a < st ∧ m < E) → D1 = D2) ∧ Hid (¬ (st < m ∧ E < b) → D2 = p ++ Srt.mrg ltE u v ++ s) := by
  have hEm : m ≤ E := by omega
  have hEb : E ≤ b := by omega
  have hEs : E + st = M + m := by omega
  have haM : a < M := by omega
  have hMb : M < b := by omega
  obtain ⟨u1, u2, rfl, l1, l2⟩ := split_at u (st - a) (by omega)
  obtain ⟨v1, v2, rfl, l3, l4⟩ := split_at v (E - m) (by omega)
  simp only [List.length_append] at hm hb l2 l4
  have hs := split_ok swoE hu hv
    (by
      rcases c1 with h | h | ⟨x, y, h1, h2, h3⟩
      · exact .inl (List.eq_nil_of_length_eq_zero (by omega))
      · exact .inr (.inl (List.eq_nil_of_length_eq_zero (by omega)))
      · rcases Nat.eq_zero_or_pos u1.length with h | h
        · exact .inl (List.eq_nil_of_length_eq_zero h)
        rcases Nat.eq_zero_or_pos v2.length with h' | h'
        · exact .inr (.inl (List.eq_nil_of_length_eq_zero h'))
        have e1 : u1[u1.length - 1]? = some (u1[u1.length - 1]'(by omega)) := List.getElem?_eq_getElem (by omega)
        have e2 : v2[0]? = some (v2[0]'(by omega)) := List.getElem?_eq_getElem (by omega)
        have k1 := hau (u1.length - 1) _ (by rw [List.getElem?_append_left (by omega)]; exact e1)
        have k2 := hav v1.length _ (by rw [List.getElem?_append_right (Nat.le_refl _), Nat.sub_self]; exact e2)
        rw [show a + (u1.length - 1) = st - 1 by omega, h1] at k1
        rw [show m + v1.length = Q - st by omega, h2] at k2
        injection k1 with k1
        injection k2 with k2
        exact .inr (.inr ⟨x, y, by rw [k1]; exact e1, by rw [k2]; exact e2, h3⟩))
    (by
      rcases c2 with h | h | ⟨x, y, h1, h2, h3⟩
      · exact .inl (List.eq_nil_of_length_eq_zero (by omega))
      · exact .inr (.inl (List.eq_nil_of_length_eq_zero (by omega)))
      · rcases Nat.eq_zero_or_pos u2.length with h | h
        · exact .inl (List.eq_nil_of_length_eq_zero h)
        rcases Nat.eq_zero_or_pos v1.length with h' | h'
        · exact .inr (.inl (List.eq_nil_of_length_eq_zero h'))
        have e1 : u2[0]? = some (u2[0]'(by omega)) := List.getElem?_eq_getElem (by omega)
        have e2 : v1[v1.length - 1]? = some (v1[v1.length - 1]'(by omega)) := List.getElem?_eq_getElem (by omega)
        have k1 := hau u1.length _ (by rw [List.getElem?_append_right (Nat.le_refl _), Nat.sub_self]; exact e1)
        have k2 := hav (v1.length - 1) _ (by rw [List.getElem?_append_left (by omega)]; exact e2)
        rw [show a + u1.length = st by omega, h1] at k1
        rw [show m + (v1.length - 1) = P1 - st by omega, h2] at k2
        injection k1 with k1
        injection k2 with k2
        exact .inr (.inr ⟨x, y, by rw [k1]; exact e1, by rw [k2]; exact e2, h3⟩))
  have hm1 : Srt.mrg ltE (u1 ++ u2) (v1 ++ v2) = Srt.mrg ltE u1 v1 ++ Srt.mrg ltE u2 v2 := Srt.mrg_split u1 u2 v1 v2 hs.1 hs.2
  have hl1 := Srt.mrg_length (lt := ltE) u1 v1
  simp only [List.length_append] at hN
  subst hD
  refine ⟨(p ++ u1) ++ v1 ++ u2 ++ (v2 ++ s), p ++ Srt.mrg ltE u1 v1 ++ (u2 ++ (v2 ++ s)), hEm, hEb, hEs, Lib.hid ?_, Lib.hid ?_, Lib.hid ?_, Lib.hid ?_, Lib.hid ?_, Lib.hid ?_⟩
  · intro h1 h2 w hA
    refine (rotate_any g off cap N st m E (p ++ u1) u2 v1 (v2 ++ s) _ w (by have := hA.2; simpa only [List.append_assoc] using this) (by simp only [List.length_append]; omega) (by rw [List.length_append]; omega) (by omega) (by omega) (by omega) (by omega)).mono ?_
    rintro e w' ⟨rfl, hc, hr⟩
    exact ⟨rfl, hA.1.trans hc (fun _ _ h => h), hr⟩
  · intro h1 h2 w hA
    refine (hIH g off cap N a st M p u1 v1 (u2 ++ (v2 ++ s)) w (by omega) (by have := hA.2; simpa only [List.append_assoc] using this) (by simp only [List.length_append]; omega) ha (by omega) (by omega) (by omega) (by omega) (Srt.Sorted.left hu) (Srt.Sorted.left hv) (fun x hx => hou x (by simp [hx])) (fun x hx => hov x (by simp [hx])) hNb).mono ?_
    rintro e w' ⟨rfl, hc, hr⟩
    exact ⟨rfl, hA.1.trans hc (fun _ _ h => h), hr⟩
  · intro h1 h2 w hA
    refine (hIH g off cap N M E b (p ++ Srt.mrg ltE u1 v1) u2 v2 s w (by omega) (by have := hA.2; simpa only [List.append_assoc] using this) (by simp only [List.length_append]; omega) (by rw [List.length_append]; omega) (by omega) (by omega) (by omega) (by omega) (Srt.Sorted.right hu) (Srt.Sorted.right hv) (fun x hx => hou x (by simp [hx])) (fun x hx => hov x (by simp [hx])) hNb).mono ?_
    rintro e w' ⟨rfl, hc, hr⟩
    refine ⟨rfl, hA.1.trans hc (fun _ _ h => h), ?_⟩
    rw [hm1]
    have := hr
    simpa only [List.append_assoc] using this
  · intro h
    have : u2 = [] ∨ v1 = [] := by
      rcases Nat.eq_zero_or_pos u2.length with h' | h'
      · exact .inl (List.eq_nil_of_length_eq_zero h')
      · exact .inr (List.eq_nil_of_length_eq_zero (by omega))
    rcases this with rfl | rfl <;> simp
  · intro h
    have : u1 = [] ∨ v1 = [] := by
      rcases Nat.eq_zero_or_pos u1.length with h' | h'
      · exact .inl (List.eq_nil_of_length_eq_zero h')
      · exact .inr (List.eq_nil_of_length_eq_zero (by omega))
    rcases this with rfl | rfl <;> simp
  · intro h
    rw [hm1]
    have : u2 = [] ∨ v2 = [] := by
      rcases Nat.eq_zero_or_pos u2.length with h' | h'
      · exact .inl (List.eq_nil_of_length_eq_zero h')
      · exact .inr (List.eq_nil_of_length_eq_zero (by omega))
    rcases this with rfl | rfl <;> simp
set_option maxRecDepth 100000 in
set_option maxHeartbeats 16000000 in
theorem symMerge_step (g off cap N a m b : Nat) (p u v s : List El) (W : World) (hIH : SymOk (b - a - 1)) (hS : SRow W 76 2 encE g off cap (p ++ u ++ v ++ s)) (hN : (p ++ u ++ v ++ s).length = N) (ha : p.length = a) (hm : a + u.length = m) (hb : m + v.length = b) (hu2 : 2 ≤ u.length) (hv2 : 2 ≤ v.length)
    (hu : Srt.Sorted ltE u) (hv : Srt.Sorted ltE v) (hou : ∀ x ∈ u, okE x) (hov : ∀ x ∈ v, okE x) (hNb : N ≤ 140737488355328) :
    Calls Try.prog 81 #[.slice (some ⟨g, off, none⟩) N cap, .int .i64 a, .int .i64 m, .int .i64 b, .func (.func 32) #[] #[]] W (SrtPost g off cap (p ++ Srt.mrg ltE u v ++ s) W) := by
  have hcap := hS.capLe
  unfold maxLen at hcap
  have hNc : N ≤ cap := by rw [← hN]; exact hcap.1
  have hcm : cap ≤ 9223372036854775807 := hcap.2
  have hlen : b + s.length = N := by simp at hN; omega
  have hbN : b ≤ N := by omega
  obtain ⟨nu, hnu⟩ : ∃ n, u.length = n := ⟨_, rfl⟩
  obtain ⟨nv, hnv⟩ : ∃ n, v.length = n := ⟨_, rfl⟩
  rw [hnu] at hm hu2
  rw [hnv] at hb hv2
  have ham : a < m := by omega
  have hmb : m < b := by omega
  have e0 : (m : Int) - (a : Int) = (nu : Int) := by omega
  have z0 : ((nu : Int) == 1) = false := by rw [beq_eq_false_iff_ne]; omega
  have e1 : (b : Int) - (m : Int) = (nv : Int) := by omega
  have z1 : ((nv : Int) == 1) = false := by rw [beq_eq_false_iff_ne]; omega
  obtain ⟨D, hD⟩ : ∃ D, D = p ++ u ++ v ++ s := ⟨_, rfl⟩
  have hpu : (p ++ u).length = m := by rw [List.length_append, ha, hnu]; exact hm
  have hau : ∀ (i : Nat) (x : El), u[i]? = some x → D[a + i]? = some x := fun i x hx => by
    have hi := (List.getElem?_eq_some_iff.1 hx).1
    rw [hD, List.append_assoc, List.getElem?_append_left (by rw [hpu]; omega), List.getElem?_append_right (by omega), show a + i - p.length = i by omega]
    exact hx
  have hav : ∀ (i : Nat) (x : El), v[i]? = some x → D[m + i]? = some x := fun i x hx => by
    have hi := (List.getElem?_eq_some_iff.1 hx).1
    rw [hD, List.getElem?_append_left (by rw [List.length_append, hpu]; omega), List.getElem?_append_right (by omega), show m + i - (p ++ u).length = i by omega]
    exact hx
  rw [← hD] at hS
  have HS0 := Lib.hid (SrtAt.start hS)
  have HNU := Lib.hid hnu
  have HNV := Lib.hid hnv
  have HAU := Lib.hid hau
  have HAV := Lib.hid hav
  have HA := Lib.hid ha
  have HB := Lib.hid hb
  have HM := Lib.hid hm
  have HU := Lib.hid hu
  have HV := Lib.hid hv
  have HOU := Lib.hid hou
  have HOV := Lib.hid hov
  have HD := Lib.hid hD
  have HN := Lib.hid hN
  have HIH := Lib.hid hIH
  clear hS hN hcap ha hnu hnv hou hov hu hv hD hau hav hlen hpu hIH
  obtain ⟨M, hM⟩ : ∃ M, M = (a + b) / 2 := ⟨_, rfl⟩
  obtain ⟨Q, hQ⟩ : ∃ Q, Q = M + m := ⟨_, rfl⟩
  obtain ⟨P1, hP1⟩ : ∃ P1, P1 = Q - 1 := ⟨_, rfl⟩
  have f1 : IntKind.u64.wrap ((a : Int) + (b : Int)) = (a : Int) + (b : Int) := IntWalk.u64_in _ (by omega)
  have f2 : ((a : Int) + (b : Int)) / 2 = (M : Int) := by omega
  have f3 : IntKind.i64.wrap (M : Int) = (M : Int) := IntWalk.i64_in _ (by omega)
  have f4 : (M : Int) + (m : Int) = (Q : Int) := by omega
  have f5 : (Q : Int) - 1 = (P1 : Int) := by omega
  obtain ⟨lo, hi, hl1, hl2, hl3, hl4, hl5, hl6, hl7, hsel⟩ : ∃ lo hi : Nat, a ≤ lo ∧ lo ≤ hi ∧ hi ≤ m ∧ hi ≤ M ∧ Q ≤ lo + b ∧ (lo = a ∨ lo + b = Q) ∧ (hi = m ∨ hi = M) ∧ ((M < m ∧ lo + b = Q ∧ hi = M) ∨ (¬ M < m ∧ lo = a ∧ hi = m)) := by
    by_cases h : M < m
    · exact ⟨Q - b, M, by omega, by omega, by omega, by omega, by omega, by omega, by omega, .inl ⟨h, by omega, rfl⟩⟩
    · exact ⟨a, m, by omega, by omega, by omega, by omega, by omega, by omega, by omega, .inr ⟨h, rfl, rfl⟩⟩
  have HMM := Lib.hid hM
  have HQ := Lib.hid hQ
  have HP1 := Lib.hid hP1
  have HL6 := Lib.hid hl6
  have HL7 := Lib.hid hl7
  have hMb : M < b := by omega
  have haM : a < M := by omega
  have hQn : Q ≤ 281474976710656 := by omega
  have hQ1 : P1 + 1 = Q := by omega
  have HQ1 := Lib.hid hQ1
  clear hM hQ hP1 hl6 hl7 hm hb hQ1
  go_enter Try.func81, Try.ntmps81
  go_upto_if 140 with (fail)
  clear f1 f2 f3 e0 e1 z0 z1
  go_cut [20, 21] (fun v1 v2 wx => v1 = .int .i64 lo ∧ v2 = .int .i64 hi ∧ SrtAt W g off cap D wx)
  case first =>
    rcases hsel with ⟨hs1, hs2, hs3⟩ | ⟨hs1, hs2, hs3⟩
    · have hs4 : decide ((M : Int) < (m : Int)) = true := decide_eq_true (by omega)
      have hs5 : decide (M < m) = true := decide_eq_true hs1
      have hs6 : (Q : Int) - (b : Int) = (lo : Int) := by omega
      have H3 := Lib.hid hs3
      clear hs2 hs3
      go_wp2
      all_goals first
        | (exfalso; omega)
        | (go_meet; exact ⟨rfl, by rw [H3.out], HS0.out⟩)
    · have hs4 : decide ((M : Int) < (m : Int)) = false := decide_eq_false (by omega)
      have hs5 : decide (M < m) = false := decide_eq_false hs1
      have H2 := Lib.hid hs2
      have H3 := Lib.hid hs3
      clear hs2 hs3
      go_wp2
      all_goals first
        | (exfalso; omega)
        | (go_meet; exact ⟨by rw [H2.out], by rw [H3.out], HS0.out⟩)
  case rest =>
    obtain ⟨rfl, rfl, hC⟩ := hcut
    clear hsel HS0
    have HS0 := Lib.hid hC
    clear hC
    generalize wc = wr0 at *
    go_wp2
    clear f5
    go_loopw [20, 21] (fun iv jv wr => ∃ (st r : Nat), iv = .int .i64 st ∧ jv = .int .i64 r ∧ lo ≤ st ∧ st ≤ r ∧ r ≤ hi ∧ (st = lo ∨ ∃ x y, D[st - 1]? = some x ∧ D[Q - st]? = some y ∧ ltE y x = false) ∧ (r = hi ∨ ∃ x y, D[r]? = some x ∧ D[P1 - r]? = some y ∧ ltE y x = true) ∧ SrtAt W g off cap D wr) (fun iv jv _ => (intOf jv).toNat - (intOf iv).toNat)
    case atStart => exact ⟨lo, hi, rfl, rfl, Nat.le_refl _, hl2, Nat.le_refl _, .inl rfl, .inl rfl, HS0.out⟩
    case round =>
      clear HS0
      obtain ⟨st, r, rfl, rfl, r1, r2, r3, r4, r5, hAt⟩ := hrel
      have R4 := Lib.hid r4
      have R5 := Lib.hid r5
      clear r4 r5
      have hq1 := HQ1.out
      have hqq := HQ.out
      by_cases hlt : st < r
      · obtain ⟨c, hc⟩ : ∃ c, c = (st + r) / 2 := ⟨_, rfl⟩
        obtain ⟨e, he⟩ : ∃ e, e = P1 - c := ⟨_, rfl⟩
        have hmm := HMM.out
        have hnu := HNU.out
        have hnv := HNV.out
        have hmo := HM.out
        have hbo := HB.out
        have hex : ∃ x, u[c - a]? = some x := ⟨u[c - a]'(by omega), List.getElem?_eq_getElem (by omega)⟩
        obtain ⟨x, hx⟩ := hex
        have hey : ∃ y, v[e - m]? = some y := ⟨v[e - m]'(by omega), List.getElem?_eq_getElem (by omega)⟩
        obtain ⟨y, hy⟩ := hey
        have hli : D[c]? = some x := by have := HAU.out _ _ hx; rwa [show a + (c - a) = c by omega] at this
        have hlj : D[e]? = some y := by have := HAV.out _ _ hy; rwa [show m + (e - m) = e by omega] at this
        have HOx := Lib.hid (HOU.out x (List.mem_of_getElem? hx))
        have HOy := Lib.hid (HOV.out y (List.mem_of_getElem? hy))
        have c1 : IntKind.u64.wrap ((st : Int) + (r : Int)) = (st : Int) + (r : Int) := IntWalk.u64_in _ (by omega)
        have c2 : ((st : Int) + (r : Int)) / 2 = (c : Int) := by omega
        have c3 : IntKind.i64.wrap (c : Int) = (c : Int) := IntWalk.i64_in _ (by omega)
        have c4 : (0 : Int) ≤ (c : Int) := by omega
        have c5 : (c : Int) < (N : Int) := by omega
        have c6 : (0 : Int) ≤ (e : Int) := by omega
        have c7 : (e : Int) < (N : Int) := by omega
        have c8 : (P1 : Int) - (c : Int) = (e : Int) := by omega
        have hic : st ≤ c := by omega
        have hcr : c < r := by omega
        have he1 : Q - (c + 1) = e := by omega
        have HE0 := Lib.hid he1
        have HE := Lib.hid he
        have hli := Lib.hid hli
        have hlj := Lib.hid hlj
        have HS := Lib.hid hAt.drew
        clear hAt hc he hx hy hnu hnv hmo hbo hmm hq1 hqq he1
        have hcl := cmpE_lt y x
        cases hyx : ltE y x
        · rw [hyx] at hcl
          have HX := Lib.hid hyx
          clear hyx
          go_upto_region 35 with (fail)
          clear c1 c2 c3
          refine wp_region_ph (by kernel_rfl) [11] [.span 0 0, .span 0 0, .span 0 0, .span 0 0, .span 0 0, .span 0 0, .span 0 0, .span 0 0, .span 0 0, .span 0 0, .span 0 0, .phase 0, .span 1 1, .span 1 1] [fun z9 => z9 = .func (.func 32) #[] #[], fun z9 => z9 = .slice (some ⟨g, off, none⟩) N cap, fun z9 => z9 = .int .i64 (P1), fun z9 => z9 = .int .i64 (c), fun z9 => z9 = .int .i64 (e), fun z9 => z9 = .pointer (some ⟨g, off + (e) * 2, none⟩), fun z9 => z9 = .agg #[.int .i64 y.w, .slice y.A y.n y.c], fun z9 => z9 = .slice (some ⟨g, off, none⟩) N cap, fun z9 => z9 = .int .i64 (c), fun z9 => z9 = .pointer (some ⟨g, off + (c) * 2, none⟩), fun z9 => z9 = .agg #[.int .i64 x.w, .slice x.A x.n x.c], fun z9 => z9 = .int .i64 (cmpE y x), fun z9 => z9 = .bool false, fun z9 => z9 = .bool true] (fun _ w => SrtAt W g off cap (D) w) (by kernel_rfl) (by kernel_rfl) (by kernel_rfl) (by kernel_rfl) (by kernel_rfl) (by kernel_rfl) rfl rfl (HS.out) ?steps ?done
          case steps =>
            refine ⟨?_, ?_, ?_, ?_, ?_, ?_, ?_, ?_, ?_, ?_, ?_, ?_, ?_, ?_, trivial⟩
            · intro us au w1 k0 hlo hhi ha hd hst hI
              obtain rfl : k0 = 0 := by omega
              have q4 := slot_far (t := 4) (v := .func (.func 32) #[] #[]) ha (by kernel_rfl) (by kernel_rfl)
              have p4 := slot_norm q4
              clear ha hd hst
              exact StepI.pure (v := .func (.func 32) #[] #[]) rfl rfl (by go_simp) ⟨rfl, hI⟩
            · intro us au w1 k1 hlo hhi ha hd hst hI
              obtain rfl : k1 = 0 := by omega
              have q0 := slot_far (t := 0) (v := .slice (some ⟨g, off, none⟩) N cap) ha (by kernel_rfl) (by kernel_rfl)
              have p0 := slot_norm q0
              clear ha hd hst
              exact StepI.pure (v := .slice (some ⟨g, off, none⟩) N cap) rfl rfl (by go_simp) ⟨rfl, hI⟩
            · intro us au w1 k2 hlo hhi ha hd hst hI
              obtain rfl : k2 = 0 := by omega
              have q22 := slot_far (t := 22) (v := .int .i64 (P1)) ha (by kernel_rfl) (by kernel_rfl)
              have p22 := slot_norm q22
              clear ha hd hst
              exact StepI.pure (v := .int .i64 (P1)) rfl rfl (by go_simp) ⟨rfl, hI⟩
            · intro us au w1 k3 hlo hhi ha hd hst hI
              obtain rfl : k3 = 0 := by omega
              have q23 := slot_far (t := 23) (v := .int .i64 (c)) ha (by kernel_rfl) (by kernel_rfl)
              have p23 := slot_norm q23
              clear ha hd hst
              exact StepI.pure (v := .int .i64 (c)) rfl rfl (by go_simp) ⟨rfl, hI⟩
            · intro us au w1 k4 hlo hhi ha hd hst hI
              obtain rfl : k4 = 0 := by omega
              have e2 := hd 2 _ (by kernel_rfl) rfl
              have e3 := hd 3 _ (by kernel_rfl) rfl
              have q160 := slot_at (t := 160) 2 ha (by kernel_rfl) (by kernel_rfl) (by kernel_rfl) e2
              have p160 := slot_norm q160
              have q161 := slot_at (t := 161) 3 ha (by kernel_rfl) (by kernel_rfl) (by kernel_rfl) e3
              have p161 := slot_norm q161
              clear ha hd hst
              exact StepI.pure (v := .int .i64 (e)) rfl rfl (by go_simp; exact IntWalk.i64_in _ (by omega)) ⟨rfl, hI⟩
            · intro us au w1 k5 hlo hhi ha hd hst hI
              obtain rfl : k5 = 0 := by omega
              have e1 := hd 1 _ (by kernel_rfl) rfl
              have e4 := hd 4 _ (by kernel_rfl) rfl
              have q159 := slot_at (t := 159) 1 ha (by kernel_rfl) (by kernel_rfl) (by kernel_rfl) e1
              have p159 := slot_norm q159
              have q162 := slot_at (t := 162) 4 ha (by kernel_rfl) (by kernel_rfl) (by kernel_rfl) e4
              have p162 := slot_norm q162
              clear ha hd hst
              exact StepI.pure (v := .pointer (some ⟨g, off + (e) * 2, none⟩)) rfl rfl (by go_simp) ⟨rfl, hI⟩
            · intro us au w1 k6 hlo hhi ha hd hst hI
              obtain rfl : k6 = 0 := by omega
              have e5 := hd 5 _ (by kernel_rfl) rfl
              have q163 := slot_at (t := 163) 5 ha (by kernel_rfl) (by kernel_rfl) (by kernel_rfl) e5
              have p163 := slot_norm q163
              clear ha hd hst
              have c0 := SrtAt.c0 hI hlj.out
              have c1 := SrtAt.c1 hI hlj.out
              exact StepI.pure (v := .agg #[.int .i64 y.w, .slice y.A y.n y.c]) rfl rfl (by go_simp) ⟨rfl, hI⟩
            · intro us au w1 k7 hlo hhi ha hd hst hI
              obtain rfl : k7 = 0 := by omega
              have q0 := slot_far (t := 0) (v := .slice (some ⟨g, off, none⟩) N cap) ha (by kernel_rfl) (by kernel_rfl)
              have p0 := slot_norm q0
              clear ha hd hst
              exact StepI.pure (v := .slice (some ⟨g, off, none⟩) N cap) rfl rfl (by go_simp) ⟨rfl, hI⟩
            · intro us au w1 k8 hlo hhi ha hd hst hI
              obtain rfl : k8 = 0 := by omega
              have q23 := slot_far (t := 23) (v := .int .i64 (c)) ha (by kernel_rfl) (by kernel_rfl)
              have p23 := slot_norm q23
              clear ha hd hst
              exact StepI.pure (v := .int .i64 (c)) rfl rfl (by go_simp) ⟨rfl, hI⟩
            · intro us au w1 k9 hlo hhi ha hd hst hI
              obtain rfl : k9 = 0 := by omega
              have e7 := hd 7 _ (by kernel_rfl) rfl
              have e8 := hd 8 _ (by kernel_rfl) rfl
              have q165 := slot_at (t := 165) 7 ha (by kernel_rfl) (by kernel_rfl) (by kernel_rfl) e7
              have p165 := slot_norm q165
              have q166 := slot_at (t := 166) 8 ha (by kernel_rfl) (by kernel_rfl) (by kernel_rfl) e8
              have p166 := slot_norm q166
              clear ha hd hst
              exact StepI.pure (v := .pointer (some ⟨g, off + (c) * 2, none⟩)) rfl rfl (by go_simp) ⟨rfl, hI⟩
            · intro us au w1 k10 hlo hhi ha hd hst hI
              obtain rfl : k10 = 0 := by omega
              have e9 := hd 9 _ (by kernel_rfl) rfl
              have q167 := slot_at (t := 167) 9 ha (by kernel_rfl) (by kernel_rfl) (by kernel_rfl) e9
              have p167 := slot_norm q167
              clear ha hd hst
              have c0 := SrtAt.c0 hI hli.out
              have c1 := SrtAt.c1 hI hli.out
              exact StepI.pure (v := .agg #[.int .i64 x.w, .slice x.A x.n x.c]) rfl rfl (by go_simp) ⟨rfl, hI⟩
            · intro us au w1 ha hd hst hI
              have e0 := hd 0 _ (by kernel_rfl) rfl
              have e6 := hd 6 _ (by kernel_rfl) rfl
              have e10 := hd 10 _ (by kernel_rfl) rfl
              have q158 := slot_at (t := 158) 0 ha (by kernel_rfl) (by kernel_rfl) (by kernel_rfl) e0
              have p158 := slot_norm q158
              have q164 := slot_at (t := 164) 6 ha (by kernel_rfl) (by kernel_rfl) (by kernel_rfl) e6
              have p164 := slot_norm q164
              have q168 := slot_at (t := 168) 10 ha (by kernel_rfl) (by kernel_rfl) (by kernel_rfl) e10
              have p168 := slot_norm q168
              clear ha hd hst
              refine StepI.call (f := 32) (args := #[.agg #[.int .i64 y.w, .slice y.A y.n y.c], .agg #[.int .i64 x.w, .slice x.A x.n x.c]]) rfl rfl (by go_simp) ?_
              refine (cmp_any y x w1 HOy.out HOx.out).mono ?_
              rintro e w' ⟨rfl, hb⟩
              exact ⟨_, rfl, rfl, SrtAt.below hI hb⟩
            · intro us au w1 k12 hlo hhi ha hd hst hI
              obtain rfl : k12 = 1 := by omega
              have e11 := hd 11 _ (by kernel_rfl) rfl
              have q169 := slot_at (t := 169) 11 ha (by kernel_rfl) (by kernel_rfl) (by kernel_rfl) e11
              have p169 := slot_norm q169
              clear ha hd hst
              exact StepI.pure (v := .bool false) rfl rfl (by go_simp) ⟨rfl, hI⟩
            · intro us au w1 k13 hlo hhi ha hd hst hI
              obtain rfl : k13 = 1 := by omega
              have e12 := hd 12 _ (by kernel_rfl) rfl
              have q170 := slot_at (t := 170) 12 ha (by kernel_rfl) (by kernel_rfl) (by kernel_rfl) e12
              have p170 := slot_norm q170
              clear ha hd hst
              exact StepI.pure (v := .bool true) rfl rfl (by go_simp) ⟨rfl, hI⟩
          case done =>
            intro us w1 hI hd
            have e13 := hd 13 _ (by decide) rfl
            clear hd HS hcl c8
            simp only [putAll]
            go_simp
            go_wp2
            go_roundw
            case rel => exact ⟨c + 1, r, by go_num, rfl, by omega, by omega, r3, .inr ⟨x, y, hli.out, by rw [HE0.out]; exact hlj.out, HX.out⟩, R5.out, hI⟩
            case measure => simp [intOf]; omega
        · rw [hyx] at hcl
          have HX := Lib.hid hyx
          clear hyx
          go_upto_region 35 with (fail)
          clear c1 c2 c3
          refine wp_region_ph (by kernel_rfl) [11] [.span 0 0, .span 0 0, .span 0 0, .span 0 0, .span 0 0, .span 0 0, .span 0 0, .span 0 0, .span 0 0, .span 0 0, .span 0 0, .phase 0, .span 1 1, .span 1 1] [fun z9 => z9 = .func (.func 32) #[] #[], fun z9 => z9 = .slice (some ⟨g, off, none⟩) N cap, fun z9 => z9 = .int .i64 (P1), fun z9 => z9 = .int .i64 (c), fun z9 => z9 = .int .i64 (e), fun z9 => z9 = .pointer (some ⟨g, off + (e) * 2, none⟩), fun z9 => z9 = .agg #[.int .i64 y.w, .slice y.A y.n y.c], fun z9 => z9 = .slice (some ⟨g, off, none⟩) N cap, fun z9 => z9 = .int .i64 (c), fun z9 => z9 = .pointer (some ⟨g, off + (c) * 2, none⟩), fun z9 => z9 = .agg #[.int .i64 x.w, .slice x.A x.n x.c], fun z9 => z9 = .int .i64 (cmpE y x), fun z9 => z9 = .bool true, fun z9 => z9 = .bool false] (fun _ w => SrtAt W g off cap (D) w) (by kernel_rfl) (by kernel_rfl) (by kernel_rfl) (by kernel_rfl) (by kernel_rfl) (by kernel_rfl) rfl rfl (HS.out) ?steps ?done
          case steps =>
            refine ⟨?_, ?_, ?_, ?_, ?_, ?_, ?_, ?_, ?_, ?_, ?_, ?_, ?_, ?_, trivial⟩
            · intro us au w1 k0 hlo hhi ha hd hst hI
              obtain rfl : k0 = 0 := by omega
              have q4 := slot_far (t := 4) (v := .func (.func 32) #[] #[]) ha (by kernel_rfl) (by kernel_rfl)
              have p4 := slot_norm q4
              clear ha hd hst
              exact StepI.pure (v := .func (.func 32) #[] #[]) rfl rfl (by go_simp) ⟨rfl, hI⟩
            · intro us au w1 k1 hlo hhi ha hd hst hI
              obtain rfl : k1 = 0 := by omega
              have q0 := slot_far (t := 0) (v := .slice (some ⟨g, off, none⟩) N cap) ha (by kernel_rfl) (by kernel_rfl)
              have p0 := slot_norm q0
              clear ha hd hst
              exact StepI.pure (v := .slice (some ⟨g, off, none⟩) N cap) rfl rfl (by go_simp) ⟨rfl, hI⟩
            · intro us au w1 k2 hlo hhi ha hd hst hI
              obtain rfl : k2 = 0 := by omega
              have q22 := slot_far (t := 22) (v := .int .i64 (P1)) ha (by kernel_rfl) (by kernel_rfl)
              have p22 := slot_norm q22
              clear ha hd hst
              exact StepI.pure (v := .int .i64 (P1)) rfl rfl (by go_simp) ⟨rfl, hI⟩
            · intro us au w1 k3 hlo hhi ha hd hst hI
              obtain rfl : k3 = 0 := by omega
              have q23 := slot_far (t := 23) (v := .int .i64 (c)) ha (by kernel_rfl) (by kernel_rfl)
              have p23 := slot_norm q23
              clear ha hd hst
              exact StepI.pure (v := .int .i64 (c)) rfl rfl (by go_simp) ⟨rfl, hI⟩
            · intro us au w1 k4 hlo hhi ha hd hst hI
              obtain rfl : k4 = 0 := by omega
              have e2 := hd 2 _ (by kernel_rfl) rfl
              have e3 := hd 3 _ (by kernel_rfl) rfl
              have q160 := slot_at (t := 160) 2 ha (by kernel_rfl) (by kernel_rfl) (by kernel_rfl) e2
              have p160 := slot_norm q160
              have q161 := slot_at (t := 161) 3 ha (by kernel_rfl) (by kernel_rfl) (by kernel_rfl) e3
              have p161 := slot_norm q161
              clear ha hd hst
              exact StepI.pure (v := .int .i64 (e)) rfl rfl (by go_simp; exact IntWalk.i64_in _ (by omega)) ⟨rfl, hI⟩
            · intro us au w1 k5 hlo hhi ha hd hst hI
              obtain rfl : k5 = 0 := by omega
              have e1 := hd 1 _ (by kernel_rfl) rfl
              have e4 := hd 4 _ (by kernel_rfl) rfl
              have q159 := slot_at (t := 159) 1 ha (by kernel_rfl) (by kernel_rfl) (by kernel_rfl) e1
              have p159 := slot_norm q159
              have q162 := slot_at (t := 162) 4 ha (by kernel_rfl) (by kernel_rfl) (by kernel_rfl) e4
              have p162 := slot_norm q162
              clear ha hd hst
              exact StepI.pure (v := .pointer (some ⟨g, off + (e) * 2, none⟩)) rfl rfl (by go_simp) ⟨rfl, hI⟩
            · intro us au w1 k6 hlo hhi ha hd hst hI
              obtain rfl : k6 = 0 := by omega
              have e5 := hd 5 _ (by kernel_rfl) rfl
              have q163 := slot_at (t := 163) 5 ha (by kernel_rfl) (by kernel_rfl) (by kernel_rfl) e5
              have p163 := slot_norm q163
              clear ha hd hst
              have c0 := SrtAt.c0 hI hlj.out
              have c1 := SrtAt.c1 hI hlj.out
              exact StepI.pure (v := .agg #[.int .i64 y.w, .slice y.A y.n y.c]) rfl rfl (by go_simp) ⟨rfl, hI⟩
            · intro us au w1 k7 hlo hhi ha hd hst hI
              obtain rfl : k7 = 0 := by omega
              have q0 := slot_far (t := 0) (v := .slice (some ⟨g, off, none⟩) N cap) ha (by kernel_rfl) (by kernel_rfl)
              have p0 := slot_norm q0
              clear ha hd hst
              exact StepI.pure (v := .slice (some ⟨g, off, none⟩) N cap) rfl rfl (by go_simp) ⟨rfl, hI⟩
            · intro us au w1 k8 hlo hhi ha hd hst hI
              obtain rfl : k8 = 0 := by omega
              have q23 := slot_far (t := 23) (v := .int .i64 (c)) ha (by kernel_rfl) (by kernel_rfl)
              have p23 := slot_norm q23
              clear ha hd hst
              exact StepI.pure (v := .int .i64 (c)) rfl rfl (by go_simp) ⟨rfl, hI⟩
            · intro us au w1 k9 hlo hhi ha hd hst hI
              obtain rfl : k9 = 0 := by omega
              have e7 := hd 7 _ (by kernel_rfl) rfl
              have e8 := hd 8 _ (by kernel_rfl) rfl
              have q165 := slot_at (t := 165) 7 ha (by kernel_rfl) (by kernel_rfl) (by kernel_rfl) e7
              have p165 := slot_norm q165
              have q166 := slot_at (t := 166) 8 ha (by kernel_rfl) (by kernel_rfl) (by kernel_rfl) e8
              have p166 := slot_norm q166
              clear ha hd hst
              exact StepI.pure (v := .pointer (some ⟨g, off + (c) * 2, none⟩)) rfl rfl (by go_simp) ⟨rfl, hI⟩
            · intro us au w1 k10 hlo hhi ha hd hst hI
              obtain rfl : k10 = 0 := by omega
              have e9 := hd 9 _ (by kernel_rfl) rfl
              have q167 := slot_at (t := 167) 9 ha (by kernel_rfl) (by kernel_rfl) (by kernel_rfl) e9
              have p167 := slot_norm q167
              clear ha hd hst
              have c0 := SrtAt.c0 hI hli.out
              have c1 := SrtAt.c1 hI hli.out
              exact StepI.pure (v := .agg #[.int .i64 x.w, .slice x.A x.n x.c]) rfl rfl (by go_simp) ⟨rfl, hI⟩
            · intro us au w1 ha hd hst hI
              have e0 := hd 0 _ (by kernel_rfl) rfl
              have e6 := hd 6 _ (by kernel_rfl) rfl
              have e10 := hd 10 _ (by kernel_rfl) rfl
              have q158 := slot_at (t := 158) 0 ha (by kernel_rfl) (by kernel_rfl) (by kernel_rfl) e0
              have p158 := slot_norm q158
              have q164 := slot_at (t := 164) 6 ha (by kernel_rfl) (by kernel_rfl) (by kernel_rfl) e6
              have p164 := slot_norm q164
              have q168 := slot_at (t := 168) 10 ha (by kernel_rfl) (by kernel_rfl) (by kernel_rfl) e10
              have p168 := slot_norm q168
              clear ha hd hst
              refine StepI.call (f := 32) (args := #[.agg #[.int .i64 y.w, .slice y.A y.n y.c], .agg #[.int .i64 x.w, .slice x.A x.n x.c]]) rfl rfl (by go_simp) ?_
              refine (cmp_any y x w1 HOy.out HOx.out).mono ?_
              rintro e w' ⟨rfl, hb⟩
              exact ⟨_, rfl, rfl, SrtAt.below hI hb⟩
            · intro us au w1 k12 hlo hhi ha hd hst hI
              obtain rfl : k12 = 1 := by omega
              have e11 := hd 11 _ (by kernel_rfl) rfl
              have q169 := slot_at (t := 169) 11 ha (by kernel_rfl) (by kernel_rfl) (by kernel_rfl) e11
              have p169 := slot_norm q169
              clear ha hd hst
              exact StepI.pure (v := .bool true) rfl rfl (by go_simp) ⟨rfl, hI⟩
            · intro us au w1 k13 hlo hhi ha hd hst hI
              obtain rfl : k13 = 1 := by omega
              have e12 := hd 12 _ (by kernel_rfl) rfl
              have q170 := slot_at (t := 170) 12 ha (by kernel_rfl) (by kernel_rfl) (by kernel_rfl) e12
              have p170 := slot_norm q170
              clear ha hd hst
              exact StepI.pure (v := .bool false) rfl rfl (by go_simp) ⟨rfl, hI⟩
          case done =>
            intro us w1 hI hd
            have e13 := hd 13 _ (by decide) rfl
            clear hd HS hcl c8
            simp only [putAll]
            go_simp
            go_wp2
            go_roundw
            case rel => exact ⟨st, c, rfl, rfl, r1, by omega, by omega, R4.out, .inr ⟨x, y, hli.out, by rw [← HE.out]; exact hlj.out, HX.out⟩, hI⟩
            case measure => simp [intOf]; omega
      · obtain rfl : r = st := by omega
        obtain ⟨E, hE⟩ : ∃ E, E = Q - r := ⟨_, rfl⟩
        have hc1 : r = a ∨ r + b = Q ∨ ∃ x y, D[r - 1]? = some x ∧ D[Q - r]? = some y ∧ ltE y x = false := by
          rcases R4.out with h | h
          · rcases HL6.out with h' | h'
            · exact .inl (by omega)
            · exact .inr (.inl (by omega))
          · exact .inr (.inr h)
        have hc2 : r = m ∨ r = M ∨ ∃ x y, D[r]? = some x ∧ D[P1 - r]? = some y ∧ ltE y x = true := by
          rcases R5.out with h | h
          · rcases HL7.out with h' | h'
            · exact .inl (by omega)
            · exact .inr (.inl (by omega))
          · exact .inr (.inr h)
        obtain ⟨D1, D2, K1, K2, K3, HRO, HLE, HRI, HE1, HE2, HE3⟩ := sym_rest HD.out HN.out HA.out (by rw [HNU.out]; exact HM.out) (by rw [HNV.out]; exact HB.out) HU.out HV.out HOU.out HOV.out hNb HIH.out HAU.out HAV.out HMM.out HQ.out hE HQ1.out (by omega) (by omega) (by omega) (by omega) (by omega) hc1 hc2 W g off cap
        clear hc1 hc2
        have g0 : (Q : Int) - (r : Int) = (E : Int) := by omega
        have HAt := Lib.hid hAt
        clear hAt hE hlt hq1 hqq
        generalize r = st at *
        by_cases A1 : a < st
        · by_cases A2 : st < m
          · by_cases A3 : m < E
            · by_cases A4 : E < b
              · have gA : decide ((a : Int) < (st : Int)) = true := decide_eq_true (by omega)
                have gA' : decide (a < st) = true := decide_eq_true (by omega)
                have gB : decide ((st : Int) < (m : Int)) = true := decide_eq_true (by omega)
                have gB' : decide (st < m) = true := decide_eq_true (by omega)
                have gC : decide ((m : Int) < (E : Int)) = true := decide_eq_true (by omega)
                have gC' : decide (m < E) = true := decide_eq_true (by omega)
                have gD : decide ((E : Int) < (b : Int)) = true := decide_eq_true (by omega)
                have gD' : decide (E < b) = true := decide_eq_true (by omega)
                have gE : decide ((st : Int) < (M : Int)) = true := decide_eq_true (by omega)
                have gE' : decide (st < M) = true := decide_eq_true (by omega)
                have gF : decide ((M : Int) < (E : Int)) = true := decide_eq_true (by omega)
                have gF' : decide (M < E) = true := decide_eq_true (by omega)
                go_wp2_with fail
                refine (HRO.out A2 A3 _ HAt.out).mono ?_
                rintro e w5 ⟨rfl, hS5⟩
                go_wp2_with fail
                refine (HLE.out A1 A3 _ hS5).mono ?_
                rintro e w6 ⟨rfl, hS6⟩
                go_wp2_with fail
                refine (HRI.out A2 A4 _ hS6).mono ?_
                rintro e w7 ⟨rfl, hS7⟩
                clear hS5 hS6
                have HS7 := Lib.hid hS7
                clear hS7
                go_wp2
                go_end0
                exact ⟨rfl, HS7.out.1, HS7.out.2⟩
              · have gA : decide ((a : Int) < (st : Int)) = true := decide_eq_true (by omega)
                have gA' : decide (a < st) = true := decide_eq_true (by omega)
                have gB : decide ((st : Int) < (m : Int)) = true := decide_eq_true (by omega)
                have gB' : decide (st < m) = true := decide_eq_true (by omega)
                have gC : decide ((m : Int) < (E : Int)) = true := decide_eq_true (by omega)
                have gC' : decide (m < E) = true := decide_eq_true (by omega)
                have gD : decide ((E : Int) < (b : Int)) = false := decide_eq_false (by omega)
                have gD' : decide (E < b) = false := decide_eq_false (by omega)
                have gE : decide ((st : Int) < (M : Int)) = true := decide_eq_true (by omega)
                have gE' : decide (st < M) = true := decide_eq_true (by omega)
                have gF : decide ((M : Int) < (E : Int)) = true := decide_eq_true (by omega)
                have gF' : decide (M < E) = true := decide_eq_true (by omega)
                go_wp2_with fail
                refine (HRO.out A2 A3 _ HAt.out).mono ?_
                rintro e w5 ⟨rfl, hS5⟩
                go_wp2_with fail
                refine (HLE.out A1 A3 _ hS5).mono ?_
                rintro e w6 ⟨rfl, hS6⟩
                have hS7 := SrtAt.eq hS6 (HE3.out (by omega))
                clear hS5 hS6
                have HS7 := Lib.hid hS7
                clear hS7
                go_wp2
                go_end0
                exact ⟨rfl, HS7.out.1, HS7.out.2⟩
            · by_cases A4 : E < b
              · have gA : decide ((a : Int) < (st : Int)) = true := decide_eq_true (by omega)
                have gA' : decide (a < st) = true := decide_eq_true (by omega)
                have gB : decide ((st : Int) < (m : Int)) = true := decide_eq_true (by omega)
                have gB' : decide (st < m) = true := decide_eq_true (by omega)
                have gC : decide ((m : Int) < (E : Int)) = false := decide_eq_false (by omega)
                have gC' : decide (m < E) = false := decide_eq_false (by omega)
                have gD : decide ((E : Int) < (b : Int)) = true := decide_eq_true (by omega)
                have gD' : decide (E < b) = true := decide_eq_true (by omega)
                have gE : decide ((st : Int) < (M : Int)) = false := decide_eq_false (by omega)
                have gE' : decide (st < M) = false := decide_eq_false (by omega)
                have gF : decide ((M : Int) < (E : Int)) = true := decide_eq_true (by omega)
                have gF' : decide (M < E) = true := decide_eq_true (by omega)
                have hS5 := SrtAt.eq HAt.out (HE1.out (by omega))
                have hS6 := SrtAt.eq hS5 (HE2.out (by omega))
                go_wp2_with fail
                refine (HRI.out A2 A4 _ hS6).mono ?_
                rintro e w7 ⟨rfl, hS7⟩
                clear hS5 hS6
                have HS7 := Lib.hid hS7
                clear hS7
                go_wp2
                go_end0
                exact ⟨rfl, HS7.out.1, HS7.out.2⟩
              · have gA : decide ((a : Int) < (st : Int)) = true := decide_eq_true (by omega)
                have gA' : decide (a < st) = true := decide_eq_true (by omega)
                have gB : decide ((st : Int) < (m : Int)) = true := decide_eq_true (by omega)
                have gB' : decide (st < m) = true := decide_eq_true (by omega)
                have gC : decide ((m : Int) < (E : Int)) = false := decide_eq_false (by omega)
                have gC' : decide (m < E) = false := decide_eq_false (by omega)
                have gD : decide ((E : Int) < (b : Int)) = false := decide_eq_false (by omega)
                have gD' : decide (E < b) = false := decide_eq_false (by omega)
                have gE : decide ((st : Int) < (M : Int)) = false := decide_eq_false (by omega)
                have gE' : decide (st < M) = false := decide_eq_false (by omega)
                have gF : decide ((M : Int) < (E : Int)) = true := decide_eq_true (by omega)
                have gF' : decide (M < E) = true := decide_eq_true (by omega)
                have hS5 := SrtAt.eq HAt.out (HE1.out (by omega))
                have hS6 := SrtAt.eq hS5 (HE2.out (by omega))
                have hS7 := SrtAt.eq hS6 (HE3.out (by omega))
                clear hS5 hS6
                have HS7 := Lib.hid hS7
                clear hS7
                go_wp2
                go_end0
                exact ⟨rfl, HS7.out.1, HS7.out.2⟩
          · by_cases A3 : m < E
            · by_cases A4 : E < b
              · have gA : decide ((a : Int) < (st : Int)) = true := decide_eq_true (by omega)
                have gA' : decide (a < st) = true := decide_eq_true (by omega)
                have gB : decide ((st : Int) < (m : Int)) = false := decide_eq_false (by omega)
                have gB' : decide (st < m) = false := decide_eq_false (by omega)
                have gC : decide ((m : Int) < (E : Int)) = true := decide_eq_true (by omega)
                have gC' : decide (m < E) = true := decide_eq_true (by omega)
                have gD : decide ((E : Int) < (b : Int)) = true := decide_eq_true (by omega)
                have gD' : decide (E < b) = true := decide_eq_true (by omega)
                have gE : decide ((st : Int) < (M : Int)) = true := decide_eq_true (by omega)
                have gE' : decide (st < M) = true := decide_eq_true (by omega)
                have gF : decide ((M : Int) < (E : Int)) = false := decide_eq_false (by omega)
                have gF' : decide (M < E) = false := decide_eq_false (by omega)
                have hS5 := SrtAt.eq HAt.out (HE1.out (by omega))
                go_wp2_with fail
                refine (HLE.out A1 A3 _ hS5).mono ?_
                rintro e w6 ⟨rfl, hS6⟩
                have hS7 := SrtAt.eq hS6 (HE3.out (by omega))
                clear hS5 hS6
                have HS7 := Lib.hid hS7
                clear hS7
                go_wp2
                go_end0
                exact ⟨rfl, HS7.out.1, HS7.out.2⟩
              · have gA : decide ((a : Int) < (st : Int)) = true := decide_eq_true (by omega)
                have gA' : decide (a < st) = true := decide_eq_true (by omega)
                have gB : decide ((st : Int) < (m : Int)) = false := decide_eq_false (by omega)
                have gB' : decide (st < m) = false := decide_eq_false (by omega)
                have gC : decide ((m : Int) < (E : Int)) = true := decide_eq_true (by omega)
                have gC' : decide (m < E) = true := decide_eq_true (by omega)
                have gD : decide ((E : Int) < (b : Int)) = false := decide_eq_false (by omega)
                have gD' : decide (E < b) = false := decide_eq_false (by omega)
                have gE : decide ((st : Int) < (M : Int)) = true := decide_eq_true (by omega)
                have gE' : decide (st < M) = true := decide_eq_true (by omega)
                have gF : decide ((M : Int) < (E : Int)) = false := decide_eq_false (by omega)
                have gF' : decide (M < E) = false := decide_eq_false (by omega)
                have hS5 := SrtAt.eq HAt.out (HE1.out (by omega))
                go_wp2_with fail
                refine (HLE.out A1 A3 _ hS5).mono ?_
                rintro e w6 ⟨rfl, hS6⟩
                have hS7 := SrtAt.eq hS6 (HE3.out (by omega))
                clear hS5 hS6
                have HS7 := Lib.hid hS7
                clear hS7
                go_wp2
                go_end0
                exact ⟨rfl, HS7.out.1, HS7.out.2⟩
            · by_cases A4 : E < b
              · have gA : decide ((a : Int) < (st : Int)) = true := decide_eq_true (by omega)
                have gA' : decide (a < st) = true := decide_eq_true (by omega)
                have gB : decide ((st : Int) < (m : Int)) = false := decide_eq_false (by omega)
                have gB' : decide (st < m) = false := decide_eq_false (by omega)
                have gC : decide ((m : Int) < (E : Int)) = false := decide_eq_false (by omega)
                have gC' : decide (m < E) = false := decide_eq_false (by omega)
                have gD : decide ((E : Int) < (b : Int)) = true := decide_eq_true (by omega)
                have gD' : decide (E < b) = true := decide_eq_true (by omega)
                have gE : decide ((st : Int) < (M : Int)) = false := decide_eq_false (by omega)
                have gE' : decide (st < M) = false := decide_eq_false (by omega)
                have gF : decide ((M : Int) < (E : Int)) = false := decide_eq_false (by omega)
                have gF' : decide (M < E) = false := decide_eq_false (by omega)
                have hS5 := SrtAt.eq HAt.out (HE1.out (by omega))
                have hS6 := SrtAt.eq hS5 (HE2.out (by omega))
                have hS7 := SrtAt.eq hS6 (HE3.out (by omega))
                clear hS5 hS6
                have HS7 := Lib.hid hS7
                clear hS7
                go_wp2
                go_end0
                exact ⟨rfl, HS7.out.1, HS7.out.2⟩
              · have gA : decide ((a : Int) < (st : Int)) = true := decide_eq_true (by omega)
                have gA' : decide (a < st) = true := decide_eq_true (by omega)
                have gB : decide ((st : Int) < (m : Int)) = false := decide_eq_false (by omega)
                have gB' : decide (st < m) = false := decide_eq_false (by omega)
                have gC : decide ((m : Int) < (E : Int)) = false := decide_eq_false (by omega)
                have gC' : decide (m < E) = false := decide_eq_false (by omega)
                have gD : decide ((E : Int) < (b : Int)) = false := decide_eq_false (by omega)
                have gD' : decide (E < b) = false := decide_eq_false (by omega)
                have gE : decide ((st : Int) < (M : Int)) = false := decide_eq_false (by omega)
                have gE' : decide (st < M) = false := decide_eq_false (by omega)
                have gF : decide ((M : Int) < (E : Int)) = false := decide_eq_false (by omega)
                have gF' : decide (M < E) = false := decide_eq_false (by omega)
                have hS5 := SrtAt.eq HAt.out (HE1.out (by omega))
                have hS6 := SrtAt.eq hS5 (HE2.out (by omega))
                have hS7 := SrtAt.eq hS6 (HE3.out (by omega))
                clear hS5 hS6
                have HS7 := Lib.hid hS7
                clear hS7
                go_wp2
                go_end0
                exact ⟨rfl, HS7.out.1, HS7.out.2⟩
        · by_cases A2 : st < m
          · by_cases A3 : m < E
            · by_cases A4 : E < b
              · have gA : decide ((a : Int) < (st : Int)) = false := decide_eq_false (by omega)
                have gA' : decide (a < st) = false := decide_eq_false (by omega)
                have gB : decide ((st : Int) < (m : Int)) = true := decide_eq_true (by omega)
                have gB' : decide (st < m) = true := decide_eq_true (by omega)
                have gC : decide ((m : Int) < (E : Int)) = true := decide_eq_true (by omega)
                have gC' : decide (m < E) = true := decide_eq_true (by omega)
                have gD : decide ((E : Int) < (b : Int)) = true := decide_eq_true (by omega)
                have gD' : decide (E < b) = true := decide_eq_true (by omega)
                have gE : decide ((st : Int) < (M : Int)) = true := decide_eq_true (by omega)
                have gE' : decide (st < M) = true := decide_eq_true (by omega)
                have gF : decide ((M : Int) < (E : Int)) = true := decide_eq_true (by omega)
                have gF' : decide (M < E) = true := decide_eq_true (by omega)
                go_wp2_with fail
                refine (HRO.out A2 A3 _ HAt.out).mono ?_
                rintro e w5 ⟨rfl, hS5⟩
                have hS6 := SrtAt.eq hS5 (HE2.out (by omega))
                go_wp2_with fail
                refine (HRI.out A2 A4 _ hS6).mono ?_
                rintro e w7 ⟨rfl, hS7⟩
                clear hS5 hS6
                have HS7 := Lib.hid hS7
                clear hS7
                go_wp2
                go_end0
                exact ⟨rfl, HS7.out.1, HS7.out.2⟩
              · have gA : decide ((a : Int) < (st : Int)) = false := decide_eq_false (by omega)
                have gA' : decide (a < st) = false := decide_eq_false (by omega)
                have gB : decide ((st : Int) < (m : Int)) = true := decide_eq_true (by omega)
                have gB' : decide (st < m) = true := decide_eq_true (by omega)
                have gC : decide ((m : Int) < (E : Int)) = true := decide_eq_true (by omega)
                have gC' : decide (m < E) = true := decide_eq_true (by omega)
                have gD : decide ((E : Int) < (b : Int)) = false := decide_eq_false (by omega)
                have gD' : decide (E < b) = false := decide_eq_false (by omega)
                have gE : decide ((st : Int) < (M : Int)) = true := decide_eq_true (by omega)
                have gE' : decide (st < M) = true := decide_eq_true (by omega)
                have gF : decide ((M : Int) < (E : Int)) = true := decide_eq_true (by omega)
                have gF' : decide (M < E) = true := decide_eq_true (by omega)
                go_wp2_with fail
                refine (HRO.out A2 A3 _ HAt.out).mono ?_
                rintro e w5 ⟨rfl, hS5⟩
                have hS6 := SrtAt.eq hS5 (HE2.out (by omega))
                have hS7 := SrtAt.eq hS6 (HE3.out (by omega))
                clear hS5 hS6
                have HS7 := Lib.hid hS7
                clear hS7
                go_wp2
                go_end0
                exact ⟨rfl, HS7.out.1, HS7.out.2⟩
            · by_cases A4 : E < b
              · have gA : decide ((a : Int) < (st : Int)) = false := decide_eq_false (by omega)
                have gA' : decide (a < st) = false := decide_eq_false (by omega)
                have gB : decide ((st : Int) < (m : Int)) = true := decide_eq_true (by omega)
                have gB' : decide (st < m) = true := decide_eq_true (by omega)
                have gC : decide ((m : Int) < (E : Int)) = false := decide_eq_false (by omega)
                have gC' : decide (m < E) = false := decide_eq_false (by omega)
                have gD : decide ((E : Int) < (b : Int)) = true := decide_eq_true (by omega)
                have gD' : decide (E < b) = true := decide_eq_true (by omega)
                have gE : decide ((st : Int) < (M : Int)) = false := decide_eq_false (by omega)
                have gE' : decide (st < M) = false := decide_eq_false (by omega)
                have gF : decide ((M : Int) < (E : Int)) = true := decide_eq_true (by omega)
                have gF' : decide (M < E) = true := decide_eq_true (by omega)
                have hS5 := SrtAt.eq HAt.out (HE1.out (by omega))
                have hS6 := SrtAt.eq hS5 (HE2.out (by omega))
                go_wp2_with fail
                refine (HRI.out A2 A4 _ hS6).mono ?_
                rintro e w7 ⟨rfl, hS7⟩
                clear hS5 hS6
                have HS7 := Lib.hid hS7
                clear hS7
                go_wp2
                go_end0
                exact ⟨rfl, HS7.out.1, HS7.out.2⟩
              · have gA : decide ((a : Int) < (st : Int)) = false := decide_eq_false (by omega)
                have gA' : decide (a < st) = false := decide_eq_false (by omega)
                have gB : decide ((st : Int) < (m : Int)) = true := decide_eq_true (by omega)
                have gB' : decide (st < m) = true := decide_eq_true (by omega)
                have gC : decide ((m : Int) < (E : Int)) = false := decide_eq_false (by omega)
                have gC' : decide (m < E) = false := decide_eq_false (by omega)
                have gD : decide ((E : Int) < (b : Int)) = false := decide_eq_false (by omega)
                have gD' : decide (E < b) = false := decide_eq_false (by omega)
                have gE : decide ((st : Int) < (M : Int)) = false := decide_eq_false (by omega)
                have gE' : decide (st < M) = false := decide_eq_false (by omega)
                have gF : decide ((M : Int) < (E : Int)) = true := decide_eq_true (by omega)
                have gF' : decide (M < E) = true := decide_eq_true (by omega)
                have hS5 := SrtAt.eq HAt.out (HE1.out (by omega))
                have hS6 := SrtAt.eq hS5 (HE2.out (by omega))
                have hS7 := SrtAt.eq hS6 (HE3.out (by omega))
                clear hS5 hS6
                have HS7 := Lib.hid hS7
                clear hS7
                go_wp2
                go_end0
                exact ⟨rfl, HS7.out.1, HS7.out.2⟩
          · by_cases A3 : m < E
            · by_cases A4 : E < b
              · have gA : decide ((a : Int) < (st : Int)) = false := decide_eq_false (by omega)
                have gA' : decide (a < st) = false := decide_eq_false (by omega)
                have gB : decide ((st : Int) < (m : Int)) = false := decide_eq_false (by omega)
                have gB' : decide (st < m) = false := decide_eq_false (by omega)
                have gC : decide ((m : Int) < (E : Int)) = true := decide_eq_true (by omega)
                have gC' : decide (m < E) = true := decide_eq_true (by omega)
                have gD : decide ((E : Int) < (b : Int)) = true := decide_eq_true (by omega)
                have gD' : decide (E < b) = true := decide_eq_true (by omega)
                have gE : decide ((st : Int) < (M : Int)) = true := decide_eq_true (by omega)
                have gE' : decide (st < M) = true := decide_eq_true (by omega)
                have gF : decide ((M : Int) < (E : Int)) = false := decide_eq_false (by omega)
                have gF' : decide (M < E) = false := decide_eq_false (by omega)
                have hS5 := SrtAt.eq HAt.out (HE1.out (by omega))
                have hS6 := SrtAt.eq hS5 (HE2.out (by omega))
                have hS7 := SrtAt.eq hS6 (HE3.out (by omega))
                clear hS5 hS6
                have HS7 := Lib.hid hS7
                clear hS7
                go_wp2
                go_end0
                exact ⟨rfl, HS7.out.1, HS7.out.2⟩
              · have gA : decide ((a : Int) < (st : Int)) = false := decide_eq_false (by omega)
                have gA' : decide (a < st) = false := decide_eq_false (by omega)
                have gB : decide ((st : Int) < (m : Int)) = false := decide_eq_false (by omega)
                have gB' : decide (st < m) = false := decide_eq_false (by omega)
                have gC : decide ((m : Int) < (E : Int)) = true := decide_eq_true (by omega)
                have gC' : decide (m < E) = true := decide_eq_true (by omega)
                have gD : decide ((E : Int) < (b : Int)) = false := decide_eq_false (by omega)
                have gD' : decide (E < b) = false := decide_eq_false (by omega)
                have gE : decide ((st : Int) < (M : Int)) = true := decide_eq_true (by omega)
                have gE' : decide (st < M) = true := decide_eq_true (by omega)
                have gF : decide ((M : Int) < (E : Int)) = false := decide_eq_false (by omega)
                have gF' : decide (M < E) = false := decide_eq_false (by omega)
                have hS5 := SrtAt.eq HAt.out (HE1.out (by omega))
                have hS6 := SrtAt.eq hS5 (HE2.out (by omega))
                have hS7 := SrtAt.eq hS6 (HE3.out (by omega))
                clear hS5 hS6
                have HS7 := Lib.hid hS7
                clear hS7
                go_wp2
                go_end0
                exact ⟨rfl, HS7.out.1, HS7.out.2⟩
            · by_cases A4 : E < b
              · have gA : decide ((a : Int) < (st : Int)) = false := decide_eq_false (by omega)
                have gA' : decide (a < st) = false := decide_eq_false (by omega)
                have gB : decide ((st : Int) < (m : Int)) = false := decide_eq_false (by omega)
                have gB' : decide (st < m) = false := decide_eq_false (by omega)
                have gC : decide ((m : Int) < (E : Int)) = false := decide_eq_false (by omega)
                have gC' : decide (m < E) = false := decide_eq_false (by omega)
                have gD : decide ((E : Int) < (b : Int)) = true := decide_eq_true (by omega)
                have gD' : decide (E < b) = true := decide_eq_true (by omega)
                have gE : decide ((st : Int) < (M : Int)) = false := decide_eq_false (by omega)
                have gE' : decide (st < M) = false := decide_eq_false (by omega)
                have gF : decide ((M : Int) < (E : Int)) = false := decide_eq_false (by omega)
                have gF' : decide (M < E) = false := decide_eq_false (by omega)
                have hS5 := SrtAt.eq HAt.out (HE1.out (by omega))
                have hS6 := SrtAt.eq hS5 (HE2.out (by omega))
                have hS7 := SrtAt.eq hS6 (HE3.out (by omega))
                clear hS5 hS6
                have HS7 := Lib.hid hS7
                clear hS7
                go_wp2
                go_end0
                exact ⟨rfl, HS7.out.1, HS7.out.2⟩
              · have gA : decide ((a : Int) < (st : Int)) = false := decide_eq_false (by omega)
                have gA' : decide (a < st) = false := decide_eq_false (by omega)
                have gB : decide ((st : Int) < (m : Int)) = false := decide_eq_false (by omega)
                have gB' : decide (st < m) = false := decide_eq_false (by omega)
                have gC : decide ((m : Int) < (E : Int)) = false := decide_eq_false (by omega)
                have gC' : decide (m < E) = false := decide_eq_false (by omega)
                have gD : decide ((E : Int) < (b : Int)) = false := decide_eq_false (by omega)
                have gD' : decide (E < b) = false := decide_eq_false (by omega)
                have gE : decide ((st : Int) < (M : Int)) = false := decide_eq_false (by omega)
                have gE' : decide (st < M) = false := decide_eq_false (by omega)
                have gF : decide ((M : Int) < (E : Int)) = false := decide_eq_false (by omega)
                have gF' : decide (M < E) = false := decide_eq_false (by omega)
                have hS5 := SrtAt.eq HAt.out (HE1.out (by omega))
                have hS6 := SrtAt.eq hS5 (HE2.out (by omega))
                have hS7 := SrtAt.eq hS6 (HE3.out (by omega))
                clear hS5 hS6
                have HS7 := Lib.hid hS7
                clear hS7
                go_wp2
                go_end0
                exact ⟨rfl, HS7.out.1, HS7.out.2⟩
end Go.Proofs.Ytdmggpngmlhboaa
