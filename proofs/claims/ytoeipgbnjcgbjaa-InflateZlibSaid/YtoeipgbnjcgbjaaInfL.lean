/- Inflate: what stands between a head and a sum, by the program. -/
import Derived.Test.YtoeipgbnjcgbjaaInfK
import Derived.Test.YtoeipgbnjcgbjaaSumTopA
import Derived.Test.YtoeipgbnjcgbjaaSumMathB
namespace Go.Proofs.Ytoeipgbnjcgbjaa
open Go.RowKit
set_option linter.unusedVariables false

/-- A head that is none. -/
def headB (a b : Int) : Prop := a % 16 ≠ 8 ∨ 7 < a / 16 ∨ (a * 256 + b) % 31 ≠ 0 ∨ b / 32 % 2 ≠ 0
instance (a b : Int) : Decidable (headB a b) := by unfold headB; infer_instance
def adlerV (xs : List Int) : Int := (adTo (1, 0) xs).2 * 65536 + (adTo (1, 0) xs).1
def be32 (bs : List Int) (n : Nat) : Int := bs.getD n 0 * 16777216 + bs.getD (n + 1) 0 * 65536 + bs.getD (n + 2) 0 * 256 + bs.getD (n + 3) 0
/-- All: the error, how many bytes were taken, what was made. -/
def zlibM (F : Nat) (bs : List Int) (most : Nat) : Int × Nat × List Int :=
  if bs.length < 2 then (4, 0, []) else if headB (bs.getD 0 0) (bs.getD 1 0) then (3, 0, [])
  else if (infM F (bs.drop 2) most).1 ≠ 0 then ((infM F (bs.drop 2) most).1, 0, [])
  else if bs.length < (infM F (bs.drop 2) most).2.1 + 2 + 4 then (4, 0, [])
  else if be32 bs ((infM F (bs.drop 2) most).2.1 + 2) ≠ adlerV (infM F (bs.drop 2) most).2.2 then (6, 0, [])
  else (0, (infM F (bs.drop 2) most).2.1 + 2 + 4, (infM F (bs.drop 2) most).2.2)
theorem zlibM_two {F : Nat} {bs : List Int} {most : Nat} (h : ¬ bs.length < 2) : zlibM F bs most = if headB (bs.getD 0 0) (bs.getD 1 0) then (3, 0, [])
    else if (infM F (bs.drop 2) most).1 ≠ 0 then ((infM F (bs.drop 2) most).1, 0, [])
    else if bs.length < (infM F (bs.drop 2) most).2.1 + 2 + 4 then (4, 0, [])
    else if be32 bs ((infM F (bs.drop 2) most).2.1 + 2) ≠ adlerV (infM F (bs.drop 2) most).2.2 then (6, 0, [])
    else (0, (infM F (bs.drop 2) most).2.1 + 2 + 4, (infM F (bs.drop 2) most).2.2) := by
  unfold zlibM
  rw [if_neg h]
theorem u32_or_add (x y : Int) (k : Nat) (hx : 0 ≤ x) (hy : 0 ≤ y) (hy2 : y < ((2 ^ k : Nat) : Int)) (hs : x * ((2 ^ k : Nat) : Int) + y < 4294967296) : bits .or .u32 (x * ((2 ^ k : Nat) : Int)) y = x * ((2 ^ k : Nat) : Int) + y := by
  obtain ⟨n, rfl⟩ := Int.eq_ofNat_of_zero_le hx
  obtain ⟨m, rfl⟩ := Int.eq_ofNat_of_zero_le hy
  generalize hp : 2 ^ k = P at *
  have h1 : m < P := by omega
  rw [← Int.natCast_mul] at hs ⊢
  rw [u32_or_nat _ _ (by omega) (by omega), ← Int.natCast_add, ← hp, Nat.mul_comm, ← Nat.two_pow_add_eq_or_of_lt (by rw [hp]; exact h1)]
set_option maxRecDepth 100000 in
theorem and15 (x : Int) (hx : 0 ≤ x ∧ x < 256) : bits .and .u8 x 15 = x % 16 := by
  obtain ⟨n, rfl⟩ := Int.eq_ofNat_of_zero_le hx.1
  have e := u8_and_nat n 15 (by omega) (by decide)
  rw [show (15 : Int) = ((15 : Nat) : Int) from rfl, e]
  have h : ∀ k : Fin 256, k.val &&& 15 = k.val % 16 := by decide
  have := h ⟨n, by omega⟩
  simp only at this
  omega
set_option maxRecDepth 100000 in
theorem and32 (x : Int) (hx : 0 ≤ x ∧ x < 256) : bits .and .u8 x 32 = x / 32 % 2 * 32 := by
  obtain ⟨n, rfl⟩ := Int.eq_ofNat_of_zero_le hx.1
  have e := u8_and_nat n 32 (by omega) (by decide)
  rw [show (32 : Int) = ((32 : Nat) : Int) from rfl, e]
  have h : ∀ k : Fin 256, k.val &&& 32 = k.val / 32 % 2 * 32 := by decide
  have := h ⟨n, by omega⟩
  simp only at this
  omega
set_option maxRecDepth 100000 in
set_option maxHeartbeats 8000000 in
theorem iZlib_any (A : Option Addr) (c F : Nat) (bs : List Int) (m : Int) (most : Nat) (w : World) (hI : Ints .u8 w A bs) (hb : Bytes bs) (hsz : bs.length ≤ 140737488351232) (hc : bs.length ≤ c) (hm : max m 0 = (most : Int)) (hmm : most ≤ 1000000) (hF1 : most < F) (hF2 : 8 * bs.length < F) :
    Calls Try.prog 45 #[.slice A bs.length c, .int .i64 m] w (RawPost bs most (zlibM F bs most) w) := by
  obtain ⟨ZM, hZM⟩ : ∃ ZM, zlibM F bs most = ZM := ⟨_, rfl⟩
  rw [hZM]
  by_cases h2 : bs.length < 2
  · have HM : Hid (ZM = (4, 0, [])) := Lib.hid (by rw [← hZM]; unfold zlibM; rw [if_pos h2])
    have d1 : decide (bs.length < 2) = true := decide_eq_true h2
    have d2 : decide ((bs.length : Int) < 2) = true := decide_eq_true (by omega)
    clear hZM hI hm
    go_enter Try.func45, Try.ntmps45
    go_wp2
    go_ret3
    exact raw_no HM.out (by decide) (Below.refl _ _)
  · have d1 : decide (bs.length < 2) = false := decide_eq_false h2
    have d2 : decide ((bs.length : Int) < 2) = false := decide_eq_false (by omega)
    have HM := Lib.hid (hZM.symm.trans (zlibM_two h2))
    obtain ⟨b, o, rfl, hbs, hcell⟩ := hI (by omega)
    have k0 := hcell 0 (by omega)
    have k1 := hcell 1 (by omega)
    simp only [Nat.add_zero] at k0
    have q0 := getD_byte hb 0
    have q1 := getD_byte hb 1
    have l1 : (1 : Int) < (bs.length : Int) := by omega
    have l0 : (0 : Int) < (bs.length : Int) := by omega
    have l2 : (2 : Int) ≤ (bs.length : Int) := by omega
    have l3 : (bs.length : Int) ≤ (c : Int) := by omega
    have HCELL := Lib.hid hcell
    have HCELL2 : Hid (∀ (wx : World), wx.heap = w.heap → ∀ j, j < bs.length → wx.cell? ⟨b, o + j, none⟩ = some (.int .u8 (bs.getD j 0))) := Lib.hid fun wx hx j hj => by rw [World.cell?_of_block (show wx.heap[b]? = w.heap[b]? by rw [hx])]; exact hcell j hj
    clear hZM hcell
    generalize bs.getD 0 0 = x0 at *
    generalize bs.getD 1 0 = x1 at *
    have hx : 0 ≤ x0 * 256 + x1 := by omega
    have n15 := and15 x0 q0
    have n32 := and32 x1 q1
    have o1 : bits .or .i64 (x0 * 256) x1 = x0 * 256 + x1 := i64_or_add x0 x1 8 q0.1 q1.1 (by omega) (by omega)
    by_cases g1 : x0 % 16 = 8
    · have e1 : (x0 % 16 != 8) = false := by simpa using g1
      by_cases g2 : 7 < x0 / 16
      · have e2 : decide (7 < x0 / 16) = true := decide_eq_true g2
        have HM2 : Hid (ZM = (3, 0, [])) := Lib.hid (HM.out.trans (if_pos (by unfold headB; omega)))
        clear HM g1 g2
        go_enter Try.func45, Try.ntmps45
        go_wp2
        go_quiet (fail)
        go_wp2
        go_ret3
        exact raw_no HM2.out (by decide) (Below.drewN (Below.refl _ _) nq)
      · have e2 : decide (7 < x0 / 16) = false := decide_eq_false g2
        by_cases g3 : (x0 * 256 + x1) % 31 = 0
        · have e3 : ((x0 * 256 + x1) % 31 != 0) = false := by simpa using g3
          by_cases g4 : x1 / 32 % 2 = 0
          · have e4 : (x1 / 32 % 2 * 32 != 0) = false := by rw [g4]; rfl
            have HM2 := Lib.hid (HM.out.trans (if_neg (by unfold headB; omega)))
            clear HM g1 g2 g3 g4
            go_enter Try.func45, Try.ntmps45
            go_wp2
            go_quiet (fail)
            have hIq : Ints .u8 (w.drewN nq) (some ⟨b, o, none⟩) bs := fun _ => ⟨b, o, rfl, hbs, HCELL.out⟩
            have hB0 : Below w.heap.size w (w.drewN nq) := Below.drewN (Below.refl _ _) nq
            have hbq : b < (w.drewN nq).heap.size := hbs
            have HB0 := Lib.hid hB0
            have HCQ := Lib.hid (HCELL2.out (w.drewN nq) rfl)
            have HIQ := Lib.hid hIq
            have HBQ := Lib.hid hbq
            clear k0 k1 n15 n32 o1 e1 e2 e3 e4 hx hB0 hIq hbq l1 l0
            generalize w.drewN nq = wq at *
            by_cases hc2 : c = 2
            · subst hc2
              have hd0 : bs.drop 2 = [] := by rw [List.drop_eq_nil_iff]; omega
              have hl0 : bs.length = 2 := by omega
              have HR := Lib.hid (iRaw_any (some ⟨b, o, none⟩) 0 F [] m most wq Ints.nil (fun _ h => by cases h) (by simp) hm hmm hF1 (by simp; omega))
              have HX : Hid (infM F (bs.drop 2) most = (4, 0, [])) := Lib.hid (by rw [hd0]; obtain ⟨f, rfl⟩ : ∃ f, F = f + 1 := ⟨F - 1, by omega⟩; unfold infM; simp [rawM])
              have HM3 : Hid (ZM = (4, 0, [])) := Lib.hid (HM2.out.trans (by rw [HX.out]; rfl))
              have HX2 : Hid (infM F [] most = (4, 0, [])) := Lib.hid (by have := HX.out; rw [hd0] at this; exact this)
              clear HM2 hd0 HX
              rw [hl0]
              go_wp2_with fail
              simp only [List.length_nil] at HR
              refine HR.out.mono ?_
              rintro e w3 ⟨hB3, hbad, _⟩
              rw [HX2.out] at hbad
              obtain rfl := hbad (by decide)
              have HB3 := Lib.hid (HB0.out.trans (hB3.mono HB0.out.size))
              clear hbad hB3 HR
              go_wp2
              go_ret3
              exact raw_no HM3.out (by decide) HB3.out
            · have hc3 : (c == 2) = false := by simpa using hc2
              have hdl : (bs.drop 2).length = bs.length - 2 := List.length_drop
              have hId : Ints .u8 wq (some ⟨b, o + 2, none⟩) (bs.drop 2) := fun _ => ⟨b, o + 2, rfl, HBQ.out, fun j hj => by
                rw [hdl] at hj
                rw [Nat.add_assoc, HCQ.out (2 + j) (by omega), List.getD_eq_getElem?_getD, List.getD_eq_getElem?_getD, List.getElem?_drop]⟩
              have hbd : Bytes (bs.drop 2) := fun x hx => hb x (List.mem_of_mem_drop hx)
              have HR := Lib.hid (by have := iRaw_any (some ⟨b, o + 2, none⟩) (c - 2) F (bs.drop 2) m most wq hId hbd (by omega) hm hmm hF1 (by omega); rwa [hdl] at this : Calls Try.prog 43 #[.slice (some ⟨b, o + 2, none⟩) (bs.length - 2) (c - 2), .int .i64 m] wq (RawPost (bs.drop 2) most (infM F (bs.drop 2) most) wq))
              have HDL := Lib.hid hdl
              clear hId hbd hdl
              generalize infM F (bs.drop 2) most = X at *
              obtain ⟨ex, nx, ox⟩ := X
              simp only at HM2
              go_wp2_with fail
              refine HR.out.mono ?_
              rintro e w3 ⟨hB3, hbad, hgood⟩
              have HB3 := Lib.hid (HB0.out.trans (hB3.mono HB0.out.size))
              have hcell3 : ∀ j, j < bs.length → w3.cell? ⟨b, o + j, none⟩ = some (.int .u8 (bs.getD j 0)) := fun j hj => (hB3.cell (p := ⟨b, o + j, none⟩) HBQ.out).trans (HCQ.out j hj)
              have HC3 := Lib.hid hcell3
              have hb3 : b < w3.heap.size := Nat.lt_of_lt_of_le HBQ.out hB3.size
              clear HR hB3 HIQ hcell3
              simp only at hbad hgood
              by_cases hx0 : ex = 0
              · subst hx0
                obtain ⟨⟨v3, rfl, ho3⟩, hl3, hn3, hb3'⟩ := hgood rfl
                rw [HDL.out] at hn3
                have HM3 := Lib.hid (HM2.out.trans (if_neg (by decide)))
                clear hbad hgood HM2
                obtain ⟨Ao, co, rfl⟩ := ho3.shape
                have HO3 := Lib.hid (ho3.base_ HB0.out.size)
                have HOX := Lib.hid (OwnS.ints ho3)
                have HOB := Lib.hid hb3'
                clear ho3 hb3'
                obtain ⟨n, hn⟩ : ∃ n, nx + 2 = n := ⟨_, rfl⟩
                have en : IntKind.i64.wrap ((nx : Int) + 2) = (n : Int) := by rw [IntWalk.i64_in _ (by omega)]; omega
                have en2 : IntKind.i64.wrap ((bs.length : Int) - (n : Int)) = (bs.length : Int) - (n : Int) := IntWalk.i64_in _ (by omega)
                rw [hn] at HM3
                by_cases h4 : bs.length < n + 4
                · have d4 : decide ((bs.length : Int) - (n : Int) < 4) = true := decide_eq_true (by omega)
                  have HM4 := Lib.hid (HM3.out.trans (if_pos h4))
                  clear HM3 hn
                  go_wp2
                  go_ret3
                  exact raw_no HM4.out (by decide) HB3.out
                · have d4 : decide ((bs.length : Int) - (n : Int) < 4) = false := decide_eq_false (by omega)
                  have HM4 := Lib.hid (HM3.out.trans (if_neg h4))
                  clear HM3 hn
                  obtain ⟨n1, hn1⟩ : ∃ n1, n + 1 = n1 := ⟨_, rfl⟩
                  obtain ⟨n2, hn2⟩ : ∃ n2, n + 2 = n2 := ⟨_, rfl⟩
                  obtain ⟨n3, hn3'⟩ : ∃ n3, n + 3 = n3 := ⟨_, rfl⟩
                  have hn4 : n3 < bs.length ∧ n + 4 < 9223372036854775808 ∧ n + 4 ≤ bs.length := by omega
                  have Ky0 := Lib.hid (HC3.out n (by omega))
                  have Ky1 := Lib.hid (HC3.out n1 (by omega))
                  have Ky2 := Lib.hid (HC3.out n2 (by omega))
                  have Ky3 := Lib.hid (HC3.out n3 (by omega))
                  have z0 := getD_byte hb n
                  have z1 := getD_byte hb n1
                  have z2 := getD_byte hb n2
                  have z3 := getD_byte hb n3
                  have HYY : Hid (be32 bs n = bs.getD n 0 * 16777216 + bs.getD n1 0 * 65536 + bs.getD n2 0 * 256 + bs.getD n3 0) := Lib.hid (by rw [← hn1, ← hn2, ← hn3']; rfl)
                  generalize bs.getD n 0 = y0 at *
                  generalize bs.getD n1 0 = y1 at *
                  generalize bs.getD n2 0 = y2 at *
                  generalize bs.getD n3 0 = y3 at *
                  generalize be32 bs n = yy at *
                  obtain ⟨ad, had⟩ : ∃ ad, adlerV ox = ad := ⟨_, rfl⟩
                  have HAD : Hid ((adTo (1, 0) ox).2 * 65536 + (adTo (1, 0) ox).1 = ad) := Lib.hid had
                  rw [had] at HM4
                  clear had
                  have en5 : IntKind.i64.wrap ((n : Int) + 1) = (n1 : Int) := by rw [IntWalk.i64_in _ (by omega)]; omega
                  have en6 : IntKind.i64.wrap ((n : Int) + 2) = (n2 : Int) := by rw [IntWalk.i64_in _ (by omega)]; omega
                  have en7 : IntKind.i64.wrap ((n : Int) + 3) = (n3 : Int) := by rw [IntWalk.i64_in _ (by omega)]; omega
                  have en8 : IntKind.i64.wrap ((n : Int) + 4) = ((n + 4 : Nat) : Int) := by rw [IntWalk.i64_in _ (by omega)]; omega
                  have r0 : (n : Int) < (bs.length : Int) := by omega
                  have r1 : (n1 : Int) < (bs.length : Int) := by omega
                  have r2 : (n2 : Int) < (bs.length : Int) := by omega
                  have r3 : (n3 : Int) < (bs.length : Int) := by omega
                  have v1 : bits .or .u32 (y0 * 16777216) (y1 * 65536) = y0 * 16777216 + y1 * 65536 := u32_or_add y0 (y1 * 65536) 24 z0.1 (by omega) (by omega) (by omega)
                  have v2 : bits .or .u32 (y0 * 16777216 + y1 * 65536) (y2 * 256) = y0 * 16777216 + y1 * 65536 + y2 * 256 := by
                    have := u32_or_add (y0 * 256 + y1) (y2 * 256) 16 (by omega) (by omega) (by omega) (by omega)
                    rw [show (y0 * 256 + y1) * ((2 ^ 16 : Nat) : Int) = y0 * 16777216 + y1 * 65536 by omega] at this
                    exact this
                  have v3 : bits .or .u32 (y0 * 16777216 + y1 * 65536 + y2 * 256) y3 = yy := by
                    have := u32_or_add (y0 * 65536 + y1 * 256 + y2) y3 8 (by omega) (by omega) (by omega) (by omega)
                    rw [show (y0 * 65536 + y1 * 256 + y2) * ((2 ^ 8 : Nat) : Int) = y0 * 16777216 + y1 * 65536 + y2 * 256 by omega] at this
                    rw [this, HYY.out]
                  have c0 : IntKind.u32.wrap y0 = y0 := IntWalk.u32_in _ (by omega)
                  have c1 : IntKind.u32.wrap y1 = y1 := IntWalk.u32_in _ (by omega)
                  have c2 : IntKind.u32.wrap y2 = y2 := IntWalk.u32_in _ (by omega)
                  have c3 : IntKind.u32.wrap y3 = y3 := IntWalk.u32_in _ (by omega)
                  have c4 : IntKind.u32.wrap (y0 * 16777216) = y0 * 16777216 := IntWalk.u32_in _ (by omega)
                  have c5 : IntKind.u32.wrap (y1 * 65536) = y1 * 65536 := IntWalk.u32_in _ (by omega)
                  have c6 : IntKind.u32.wrap (y2 * 256) = y2 * 256 := IntWalk.u32_in _ (by omega)
                  clear hn1 hn2 hn3' HC3 HYY
                  generalize hwB : w3 = wB at *
                  clear hwB
                  have hbB := hb3
                  go_upto_region 11 with (fail)
                  go_cut [93] (fun v wx => v = .bool (yy != ad) ∧ Below wB.heap.size wB wx)
                  case first =>
                    refine wp_region_ph (by kernel_rfl) [30] [.span 0 1, .span 0 1, .span 0 1, .span 0 1, .span 0 1, .span 0 1, .span 0 1, .span 0 1, .span 0 1, .span 0 1, .span 0 1, .span 0 1, .span 0 1, .span 0 1, .span 0 1, .span 0 1, .span 0 1, .span 0 1, .span 0 1, .span 0 1, .span 0 1, .span 0 1, .span 0 1, .span 0 1, .span 0 1, .span 0 1, .span 0 1, .span 0 1, .span 0 1, .span 0 0, .phase 0, .span 1 1] [fun z9 => z9 = .slice (some ⟨b, o, none⟩) bs.length c, fun z9 => z9 = .int .i64 n, fun z9 => z9 = .pointer (some ⟨b, o + n, none⟩), fun z9 => z9 = .int .u8 y0, fun z9 => z9 = .int .u32 y0, fun z9 => z9 = .int .u32 (y0 * 16777216), fun z9 => z9 = .slice (some ⟨b, o, none⟩) bs.length c, fun z9 => z9 = .int .i64 n, fun z9 => z9 = .int .i64 n1, fun z9 => z9 = .pointer (some ⟨b, o + n1, none⟩), fun z9 => z9 = .int .u8 y1, fun z9 => z9 = .int .u32 y1, fun z9 => z9 = .int .u32 (y1 * 65536), fun z9 => z9 = .int .u32 (y0 * 16777216 + y1 * 65536), fun z9 => z9 = .slice (some ⟨b, o, none⟩) bs.length c, fun z9 => z9 = .int .i64 n, fun z9 => z9 = .int .i64 n2, fun z9 => z9 = .pointer (some ⟨b, o + n2, none⟩), fun z9 => z9 = .int .u8 y2, fun z9 => z9 = .int .u32 y2, fun z9 => z9 = .int .u32 (y2 * 256), fun z9 => z9 = .int .u32 (y0 * 16777216 + y1 * 65536 + y2 * 256), fun z9 => z9 = .slice (some ⟨b, o, none⟩) bs.length c, fun z9 => z9 = .int .i64 n, fun z9 => z9 = .int .i64 n3, fun z9 => z9 = .pointer (some ⟨b, o + n3, none⟩), fun z9 => z9 = .int .u8 y3, fun z9 => z9 = .int .u32 y3, fun z9 => z9 = .int .u32 yy, fun z9 => z9 = .slice Ao ox.length co, fun z9 => z9 = .int .u32 ad, fun z9 => z9 = .bool (yy != ad)] (fun _ w => Below wB.heap.size wB w) (by kernel_rfl) (by kernel_rfl) (by kernel_rfl) (by kernel_rfl) (by kernel_rfl) (by kernel_rfl) rfl rfl ((Below.refl _ _).drew) ?steps ?done
                    case steps =>
                      refine ⟨?_, ?_, ?_, ?_, ?_, ?_, ?_, ?_, ?_, ?_, ?_, ?_, ?_, ?_, ?_, ?_, ?_, ?_, ?_, ?_, ?_, ?_, ?_, ?_, ?_, ?_, ?_, ?_, ?_, ?_, ?_, ?_, trivial⟩
                      · intro us au w1 k0 hlo hhi ha hd hst hI
                        have q0 := slot_far (t := 0) (v := .slice (some ⟨b, o, none⟩) bs.length c) ha (by kernel_rfl) (by kernel_rfl)
                        have p0 := slot_norm q0
                        clear ha hd hst
                        exact StepI.pure (v := .slice (some ⟨b, o, none⟩) bs.length c) rfl rfl (by go_simp) ⟨rfl, hI⟩
                      · intro us au w1 k1 hlo hhi ha hd hst hI
                        have q7 := slot_far (t := 7) (v := .int .i64 n) ha (by kernel_rfl) (by kernel_rfl)
                        have p7 := slot_norm q7
                        clear ha hd hst
                        exact StepI.pure (v := .int .i64 n) rfl rfl (by go_simp) ⟨rfl, hI⟩
                      · intro us au w1 k2 hlo hhi ha hd hst hI
                        have e0 := hd 0 _ (by kernel_rfl) rfl
                        have e1 := hd 1 _ (by kernel_rfl) rfl
                        have q62 := slot_at (t := 62) 0 ha (by kernel_rfl) (by kernel_rfl) (by kernel_rfl) e0
                        have p62 := slot_norm q62
                        have q63 := slot_at (t := 63) 1 ha (by kernel_rfl) (by kernel_rfl) (by kernel_rfl) e1
                        have p63 := slot_norm q63
                        clear ha hd hst
                        exact StepI.pure (v := .pointer (some ⟨b, o + n, none⟩)) rfl rfl (by go_simp) ⟨rfl, hI⟩
                      · intro us au w1 k3 hlo hhi ha hd hst hI
                        have e2 := hd 2 _ (by kernel_rfl) rfl
                        have q64 := slot_at (t := 64) 2 ha (by kernel_rfl) (by kernel_rfl) (by kernel_rfl) e2
                        have p64 := slot_norm q64
                        clear ha hd hst
                        have cl : w1.cell? ⟨b, o + n, none⟩ = some (.int .u8 y0) := (hI.cell (p := ⟨b, o + n, none⟩) hbB).trans Ky0.out
                        exact StepI.pure (v := .int .u8 y0) rfl rfl (by go_simp) ⟨rfl, hI⟩
                      · intro us au w1 k4 hlo hhi ha hd hst hI
                        have e3 := hd 3 _ (by kernel_rfl) rfl
                        have q65 := slot_at (t := 65) 3 ha (by kernel_rfl) (by kernel_rfl) (by kernel_rfl) e3
                        have p65 := slot_norm q65
                        clear ha hd hst
                        exact StepI.pure (v := .int .u32 y0) rfl rfl (by go_simp) ⟨rfl, hI⟩
                      · intro us au w1 k5 hlo hhi ha hd hst hI
                        have e4 := hd 4 _ (by kernel_rfl) rfl
                        have q66 := slot_at (t := 66) 4 ha (by kernel_rfl) (by kernel_rfl) (by kernel_rfl) e4
                        have p66 := slot_norm q66
                        clear ha hd hst
                        exact StepI.pure (v := .int .u32 (y0 * 16777216)) rfl rfl (by go_simp) ⟨rfl, hI⟩
                      · intro us au w1 k6 hlo hhi ha hd hst hI
                        have q0 := slot_far (t := 0) (v := .slice (some ⟨b, o, none⟩) bs.length c) ha (by kernel_rfl) (by kernel_rfl)
                        have p0 := slot_norm q0
                        clear ha hd hst
                        exact StepI.pure (v := .slice (some ⟨b, o, none⟩) bs.length c) rfl rfl (by go_simp) ⟨rfl, hI⟩
                      · intro us au w1 k7 hlo hhi ha hd hst hI
                        have q7 := slot_far (t := 7) (v := .int .i64 n) ha (by kernel_rfl) (by kernel_rfl)
                        have p7 := slot_norm q7
                        clear ha hd hst
                        exact StepI.pure (v := .int .i64 n) rfl rfl (by go_simp) ⟨rfl, hI⟩
                      · intro us au w1 k8 hlo hhi ha hd hst hI
                        have e7 := hd 7 _ (by kernel_rfl) rfl
                        have q69 := slot_at (t := 69) 7 ha (by kernel_rfl) (by kernel_rfl) (by kernel_rfl) e7
                        have p69 := slot_norm q69
                        clear ha hd hst
                        exact StepI.pure (v := .int .i64 n1) rfl rfl (by go_simp) ⟨rfl, hI⟩
                      · intro us au w1 k9 hlo hhi ha hd hst hI
                        have e6 := hd 6 _ (by kernel_rfl) rfl
                        have e8 := hd 8 _ (by kernel_rfl) rfl
                        have q68 := slot_at (t := 68) 6 ha (by kernel_rfl) (by kernel_rfl) (by kernel_rfl) e6
                        have p68 := slot_norm q68
                        have q70 := slot_at (t := 70) 8 ha (by kernel_rfl) (by kernel_rfl) (by kernel_rfl) e8
                        have p70 := slot_norm q70
                        clear ha hd hst
                        exact StepI.pure (v := .pointer (some ⟨b, o + n1, none⟩)) rfl rfl (by go_simp) ⟨rfl, hI⟩
                      · intro us au w1 k10 hlo hhi ha hd hst hI
                        have e9 := hd 9 _ (by kernel_rfl) rfl
                        have q71 := slot_at (t := 71) 9 ha (by kernel_rfl) (by kernel_rfl) (by kernel_rfl) e9
                        have p71 := slot_norm q71
                        clear ha hd hst
                        have cl : w1.cell? ⟨b, o + n1, none⟩ = some (.int .u8 y1) := (hI.cell (p := ⟨b, o + n1, none⟩) hbB).trans Ky1.out
                        exact StepI.pure (v := .int .u8 y1) rfl rfl (by go_simp) ⟨rfl, hI⟩
                      · intro us au w1 k11 hlo hhi ha hd hst hI
                        have e10 := hd 10 _ (by kernel_rfl) rfl
                        have q72 := slot_at (t := 72) 10 ha (by kernel_rfl) (by kernel_rfl) (by kernel_rfl) e10
                        have p72 := slot_norm q72
                        clear ha hd hst
                        exact StepI.pure (v := .int .u32 y1) rfl rfl (by go_simp) ⟨rfl, hI⟩
                      · intro us au w1 k12 hlo hhi ha hd hst hI
                        have e11 := hd 11 _ (by kernel_rfl) rfl
                        have q73 := slot_at (t := 73) 11 ha (by kernel_rfl) (by kernel_rfl) (by kernel_rfl) e11
                        have p73 := slot_norm q73
                        clear ha hd hst
                        exact StepI.pure (v := .int .u32 (y1 * 65536)) rfl rfl (by go_simp) ⟨rfl, hI⟩
                      · intro us au w1 k13 hlo hhi ha hd hst hI
                        have e5 := hd 5 _ (by kernel_rfl) rfl
                        have e12 := hd 12 _ (by kernel_rfl) rfl
                        have q67 := slot_at (t := 67) 5 ha (by kernel_rfl) (by kernel_rfl) (by kernel_rfl) e5
                        have p67 := slot_norm q67
                        have q74 := slot_at (t := 74) 12 ha (by kernel_rfl) (by kernel_rfl) (by kernel_rfl) e12
                        have p74 := slot_norm q74
                        clear ha hd hst
                        exact StepI.pure (v := .int .u32 (y0 * 16777216 + y1 * 65536)) rfl rfl (by go_simp) ⟨rfl, hI⟩
                      · intro us au w1 k14 hlo hhi ha hd hst hI
                        have q0 := slot_far (t := 0) (v := .slice (some ⟨b, o, none⟩) bs.length c) ha (by kernel_rfl) (by kernel_rfl)
                        have p0 := slot_norm q0
                        clear ha hd hst
                        exact StepI.pure (v := .slice (some ⟨b, o, none⟩) bs.length c) rfl rfl (by go_simp) ⟨rfl, hI⟩
                      · intro us au w1 k15 hlo hhi ha hd hst hI
                        have q7 := slot_far (t := 7) (v := .int .i64 n) ha (by kernel_rfl) (by kernel_rfl)
                        have p7 := slot_norm q7
                        clear ha hd hst
                        exact StepI.pure (v := .int .i64 n) rfl rfl (by go_simp) ⟨rfl, hI⟩
                      · intro us au w1 k16 hlo hhi ha hd hst hI
                        have e15 := hd 15 _ (by kernel_rfl) rfl
                        have q77 := slot_at (t := 77) 15 ha (by kernel_rfl) (by kernel_rfl) (by kernel_rfl) e15
                        have p77 := slot_norm q77
                        clear ha hd hst
                        exact StepI.pure (v := .int .i64 n2) rfl rfl (by go_simp) ⟨rfl, hI⟩
                      · intro us au w1 k17 hlo hhi ha hd hst hI
                        have e14 := hd 14 _ (by kernel_rfl) rfl
                        have e16 := hd 16 _ (by kernel_rfl) rfl
                        have q76 := slot_at (t := 76) 14 ha (by kernel_rfl) (by kernel_rfl) (by kernel_rfl) e14
                        have p76 := slot_norm q76
                        have q78 := slot_at (t := 78) 16 ha (by kernel_rfl) (by kernel_rfl) (by kernel_rfl) e16
                        have p78 := slot_norm q78
                        clear ha hd hst
                        exact StepI.pure (v := .pointer (some ⟨b, o + n2, none⟩)) rfl rfl (by go_simp) ⟨rfl, hI⟩
                      · intro us au w1 k18 hlo hhi ha hd hst hI
                        have e17 := hd 17 _ (by kernel_rfl) rfl
                        have q79 := slot_at (t := 79) 17 ha (by kernel_rfl) (by kernel_rfl) (by kernel_rfl) e17
                        have p79 := slot_norm q79
                        clear ha hd hst
                        have cl : w1.cell? ⟨b, o + n2, none⟩ = some (.int .u8 y2) := (hI.cell (p := ⟨b, o + n2, none⟩) hbB).trans Ky2.out
                        exact StepI.pure (v := .int .u8 y2) rfl rfl (by go_simp) ⟨rfl, hI⟩
                      · intro us au w1 k19 hlo hhi ha hd hst hI
                        have e18 := hd 18 _ (by kernel_rfl) rfl
                        have q80 := slot_at (t := 80) 18 ha (by kernel_rfl) (by kernel_rfl) (by kernel_rfl) e18
                        have p80 := slot_norm q80
                        clear ha hd hst
                        exact StepI.pure (v := .int .u32 y2) rfl rfl (by go_simp) ⟨rfl, hI⟩
                      · intro us au w1 k20 hlo hhi ha hd hst hI
                        have e19 := hd 19 _ (by kernel_rfl) rfl
                        have q81 := slot_at (t := 81) 19 ha (by kernel_rfl) (by kernel_rfl) (by kernel_rfl) e19
                        have p81 := slot_norm q81
                        clear ha hd hst
                        exact StepI.pure (v := .int .u32 (y2 * 256)) rfl rfl (by go_simp) ⟨rfl, hI⟩
                      · intro us au w1 k21 hlo hhi ha hd hst hI
                        have e13 := hd 13 _ (by kernel_rfl) rfl
                        have e20 := hd 20 _ (by kernel_rfl) rfl
                        have q75 := slot_at (t := 75) 13 ha (by kernel_rfl) (by kernel_rfl) (by kernel_rfl) e13
                        have p75 := slot_norm q75
                        have q82 := slot_at (t := 82) 20 ha (by kernel_rfl) (by kernel_rfl) (by kernel_rfl) e20
                        have p82 := slot_norm q82
                        clear ha hd hst
                        exact StepI.pure (v := .int .u32 (y0 * 16777216 + y1 * 65536 + y2 * 256)) rfl rfl (by go_simp) ⟨rfl, hI⟩
                      · intro us au w1 k22 hlo hhi ha hd hst hI
                        have q0 := slot_far (t := 0) (v := .slice (some ⟨b, o, none⟩) bs.length c) ha (by kernel_rfl) (by kernel_rfl)
                        have p0 := slot_norm q0
                        clear ha hd hst
                        exact StepI.pure (v := .slice (some ⟨b, o, none⟩) bs.length c) rfl rfl (by go_simp) ⟨rfl, hI⟩
                      · intro us au w1 k23 hlo hhi ha hd hst hI
                        have q7 := slot_far (t := 7) (v := .int .i64 n) ha (by kernel_rfl) (by kernel_rfl)
                        have p7 := slot_norm q7
                        clear ha hd hst
                        exact StepI.pure (v := .int .i64 n) rfl rfl (by go_simp) ⟨rfl, hI⟩
                      · intro us au w1 k24 hlo hhi ha hd hst hI
                        have e23 := hd 23 _ (by kernel_rfl) rfl
                        have q85 := slot_at (t := 85) 23 ha (by kernel_rfl) (by kernel_rfl) (by kernel_rfl) e23
                        have p85 := slot_norm q85
                        clear ha hd hst
                        exact StepI.pure (v := .int .i64 n3) rfl rfl (by go_simp) ⟨rfl, hI⟩
                      · intro us au w1 k25 hlo hhi ha hd hst hI
                        have e22 := hd 22 _ (by kernel_rfl) rfl
                        have e24 := hd 24 _ (by kernel_rfl) rfl
                        have q84 := slot_at (t := 84) 22 ha (by kernel_rfl) (by kernel_rfl) (by kernel_rfl) e22
                        have p84 := slot_norm q84
                        have q86 := slot_at (t := 86) 24 ha (by kernel_rfl) (by kernel_rfl) (by kernel_rfl) e24
                        have p86 := slot_norm q86
                        clear ha hd hst
                        exact StepI.pure (v := .pointer (some ⟨b, o + n3, none⟩)) rfl rfl (by go_simp) ⟨rfl, hI⟩
                      · intro us au w1 k26 hlo hhi ha hd hst hI
                        have e25 := hd 25 _ (by kernel_rfl) rfl
                        have q87 := slot_at (t := 87) 25 ha (by kernel_rfl) (by kernel_rfl) (by kernel_rfl) e25
                        have p87 := slot_norm q87
                        clear ha hd hst
                        have cl : w1.cell? ⟨b, o + n3, none⟩ = some (.int .u8 y3) := (hI.cell (p := ⟨b, o + n3, none⟩) hbB).trans Ky3.out
                        exact StepI.pure (v := .int .u8 y3) rfl rfl (by go_simp) ⟨rfl, hI⟩
                      · intro us au w1 k27 hlo hhi ha hd hst hI
                        have e26 := hd 26 _ (by kernel_rfl) rfl
                        have q88 := slot_at (t := 88) 26 ha (by kernel_rfl) (by kernel_rfl) (by kernel_rfl) e26
                        have p88 := slot_norm q88
                        clear ha hd hst
                        exact StepI.pure (v := .int .u32 y3) rfl rfl (by go_simp) ⟨rfl, hI⟩
                      · intro us au w1 k28 hlo hhi ha hd hst hI
                        have e21 := hd 21 _ (by kernel_rfl) rfl
                        have e27 := hd 27 _ (by kernel_rfl) rfl
                        have q83 := slot_at (t := 83) 21 ha (by kernel_rfl) (by kernel_rfl) (by kernel_rfl) e21
                        have p83 := slot_norm q83
                        have q89 := slot_at (t := 89) 27 ha (by kernel_rfl) (by kernel_rfl) (by kernel_rfl) e27
                        have p89 := slot_norm q89
                        clear ha hd hst
                        exact StepI.pure (v := .int .u32 yy) rfl rfl (by go_simp) ⟨rfl, hI⟩
                      · intro us au w1 k29 hlo hhi ha hd hst hI
                        obtain rfl : k29 = 0 := by omega
                        have q4 := slot_far (t := 4) (v := .slice Ao ox.length co) ha (by kernel_rfl) (by kernel_rfl)
                        have p4 := slot_norm q4
                        clear ha hd hst
                        exact StepI.pure (v := .slice Ao ox.length co) rfl rfl (by go_simp) ⟨rfl, hI⟩
                      · intro us au w1 ha hd hst hI
                        have e29 := hd 29 _ (by kernel_rfl) rfl
                        have q91 := slot_at (t := 91) 29 ha (by kernel_rfl) (by kernel_rfl) (by kernel_rfl) e29
                        have p91 := slot_norm q91
                        clear ha hd hst
                        refine StepI.call (f := 80) (args := #[.slice Ao ox.length co]) rfl rfl (by go_simp) ?_
                        refine (adler_any Ao ox.length co ox w1 (HOX.out.below hI) rfl HOB.out (by omega) (adOut_num ox).1).mono ?_
                        rintro e w5 ⟨rfl, hB5⟩
                        exact ⟨_, rfl, by rw [(adOut_num ox).2]; exact congrArg (Value.int .u32) HAD.out, (hI : Below wB.heap.size wB w1).trans (hB5.mono hI.size)⟩
                      · intro us au w1 k31 hlo hhi ha hd hst hI
                        obtain rfl : k31 = 1 := by omega
                        have e28 := hd 28 _ (by kernel_rfl) rfl
                        have e30 := hd 30 _ (by kernel_rfl) rfl
                        have q90 := slot_at (t := 90) 28 ha (by kernel_rfl) (by kernel_rfl) (by kernel_rfl) e28
                        have p90 := slot_norm q90
                        have q92 := slot_at (t := 92) 30 ha (by kernel_rfl) (by kernel_rfl) (by kernel_rfl) e30
                        have p92 := slot_norm q92
                        clear ha hd hst
                        exact StepI.pure (v := .bool (yy != ad)) rfl rfl (by go_simp) ⟨rfl, hI⟩
                    case done =>
                      intro us w1 hI hd
                      have h31 := hd 31 _ (by decide) rfl
                      clear hd d4
                      simp only [putAll]
                      go_simp
                      go_wp2
                      go_meet
                      exact ⟨(by first | rfl | exact h31), hI⟩
                  case rest =>
                    obtain ⟨rfl, hBc⟩ := hcut
                    have HBC := Lib.hid (HB3.out.trans (hBc.mono HB3.out.size))
                    have HOC := Lib.hid (OwnS.chg HO3.out (Chg.of_below (S := fun _ => False) hBc) (fun _ _ h => h))
                    clear hBc v1 v2 v3 c0 c1 c2 c3 c4 c5 c6 Ky0 Ky1 Ky2 Ky3 d4
                    by_cases hyy : yy = ad
                    · have e5 : (yy != ad) = false := by simpa using hyy
                      have HM5 := Lib.hid (HM4.out.trans (if_neg (fun h => h hyy)))
                      clear HM4 hyy
                      rw [e5]
                      clear e5
                      go_wp2
                      go_ret3
                      exact raw_ok HM5.out HBC.out HOC.out hl3 hn4.2.2 HOB.out
                    · have e5 : (yy != ad) = true := by simpa using hyy
                      have HM5 := Lib.hid (HM4.out.trans (if_pos hyy))
                      clear HM4 hyy
                      rw [e5]
                      clear e5
                      go_wp2
                      go_ret3
                      exact raw_no HM5.out (by decide) HBC.out
              · have d5 : (ex == 0) = false := by simpa using hx0
                have d6 : (ex != 0) = true := by simpa using hx0
                obtain rfl := hbad hx0
                have HM3 := Lib.hid (HM2.out.trans (if_pos hx0))
                clear hbad hgood HM2
                go_wp2
                go_ret3
                exact raw_no HM3.out hx0 HB3.out
          · have e4 : (x1 / 32 % 2 * 32 != 0) = true := by rw [show x1 / 32 % 2 = 1 by omega]; rfl
            have HM2 : Hid (ZM = (3, 0, [])) := Lib.hid (HM.out.trans (if_pos (by unfold headB; omega)))
            clear HM g1 g2 g3 g4
            go_enter Try.func45, Try.ntmps45
            go_wp2
            go_quiet (fail)
            go_wp2
            go_ret3
            exact raw_no HM2.out (by decide) (Below.drewN (Below.refl _ _) nq)
        · have e3 : ((x0 * 256 + x1) % 31 != 0) = true := by simpa using g3
          have HM2 : Hid (ZM = (3, 0, [])) := Lib.hid (HM.out.trans (if_pos (by unfold headB; omega)))
          clear HM g1 g2 g3
          go_enter Try.func45, Try.ntmps45
          go_wp2
          go_quiet (fail)
          go_wp2
          go_ret3
          exact raw_no HM2.out (by decide) (Below.drewN (Below.refl _ _) nq)
    · have e1 : (x0 % 16 != 8) = true := by simpa using g1
      have HM2 : Hid (ZM = (3, 0, [])) := Lib.hid (HM.out.trans (if_pos (by unfold headB; omega)))
      clear HM g1
      go_enter Try.func45, Try.ntmps45
      go_wp2
      go_quiet (fail)
      go_wp2
      go_ret3
      exact raw_no HM2.out (by decide) (Below.drewN (Below.refl _ _) nq)
end Go.Proofs.Ytoeipgbnjcgbjaa
