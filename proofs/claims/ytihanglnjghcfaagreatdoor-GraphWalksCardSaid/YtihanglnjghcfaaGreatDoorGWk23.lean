/- The law's Make: a history out of small numbers. -/
import Derived.Test.YtihanglnjghcfaaGreatDoorGWk22
import Derived.Test.YtihanglnjghcfaaGreatDoorGWk4
import Derived.Test.YtihanglnjghcfaaGreatDoorGWk12
import Derived.Laws.MakeOwn
import Derived.Test.YtihanglnjghcfaaGreatDoorGWk18
import Derived.Test.YtihanglnjghcfaaGreatDoorGWk20
namespace Go.Proofs.YtihanglnjghcfaaGreatDoor
open Go.RowKit Go.Maps
set_option linter.unusedVariables false
set_option linter.unusedSimpArgs false

theorem and65535 (n : Int) : ∃ N : Nat, bits .and .i64 n 65535 = (N : Int) ∧ N < 65536 := by
  have h127 : (BitVec.ofInt 64 65535).toNat = 2 ^ 16 - 1 := by decide
  have key : (BitVec.ofInt 64 n &&& BitVec.ofInt 64 65535).toNat = (n % ((2 ^ 64 : Nat) : Int)).toNat % 2 ^ 16 := by
    rw [BitVec.toNat_and, BitVec.toNat_ofInt, h127, Nat.and_two_pow_sub_one_eq_mod]
  refine ⟨(n % ((2 ^ 64 : Nat) : Int)).toNat % 2 ^ 16, ?_, by omega⟩
  show IntKind.i64.wrap ((BitVec.ofInt 64 n &&& BitVec.ofInt 64 65535).toNat : Nat) = _
  rw [key, IntWalk.i64_in _ (by omega)]
theorem and3 (n : Int) : ∃ N : Nat, bits .and .i64 n 3 = (N : Int) ∧ N < 4 := by
  have h127 : (BitVec.ofInt 64 3).toNat = 2 ^ 2 - 1 := by decide
  have key : (BitVec.ofInt 64 n &&& BitVec.ofInt 64 3).toNat = (n % ((2 ^ 64 : Nat) : Int)).toNat % 2 ^ 2 := by
    rw [BitVec.toNat_and, BitVec.toNat_ofInt, h127, Nat.and_two_pow_sub_one_eq_mod]
  refine ⟨(n % ((2 ^ 64 : Nat) : Int)).toNat % 2 ^ 2, ?_, by omega⟩
  show IntKind.i64.wrap ((BitVec.ofInt 64 n &&& BitVec.ofInt 64 3).toNat : Nat) = _
  rw [key, IntWalk.i64_in _ (by omega)]
/-- A made history. -/
structure MkOk (R : List Kn) : Prop where
  ids : IdR R
  one : (R.map (·.id)).Nodup
  made : ∀ x ∈ R, MadeIn R x ∧ x.b.length ≤ 2000
theorem HasK.more {R : List Kn} {k : Int} {d : Gid} (h : HasK R k d) (x : Kn) : HasK (R ++ [x]) k d := by
  obtain ⟨y, hy, h1, h2⟩ := h
  exact ⟨y, List.mem_append_left _ hy, h1, h2⟩
theorem MadeIn.more {R : List Kn} {x : Kn} (h : MadeIn R x) (z : Kn) : MadeIn (R ++ [z]) x := by
  rcases h with h | ⟨h0, u, hu, h⟩ | ⟨h0, c, N, hc, h⟩ | ⟨h0, t, P, N, ht, hP, h⟩
  · exact .inl h
  · refine .inr (.inl ⟨h0, u, hu.more z, ?_⟩)
    rcases h with h | ⟨N, t, hN, ht, h⟩
    · exact .inl h
    · exact .inr ⟨N, t, hN, ht.more z, h⟩
  · exact .inr (.inr (.inl ⟨h0, c, N, hc.more z, h⟩))
  · exact .inr (.inr (.inr ⟨h0, t, P, N, ht.more z, fun p hp => (hP p hp).more z, h⟩))
theorem getK_none {R : List Kn} {d : Gid} (h : getK R d = none) : ∀ x ∈ R, x.id ≠ d := fun x hx he => by
  unfold getK at h
  rw [List.find?_eq_none] at h
  exact h x hx (by simp [he])
theorem MkOk.step {R R' : List Kn} (h : MkOk R) (hs : MadeStep R R') : MkOk R' ∧ R'.length ≤ R.length + 1 := by
  rcases hs with rfl | ⟨x, rfl, hg, hid, hm, hb⟩
  · exact ⟨h, by omega⟩
  · refine ⟨⟨?_, ?_, ?_⟩, by simp⟩
    · intro y hy
      rcases List.mem_append.1 hy with hy | hy
      · exact h.ids y hy
      · rw [List.mem_singleton.1 hy]; exact hid
    · rw [List.map_append, List.nodup_append]
      refine ⟨h.one, by simp, fun a ha b hb => ?_⟩
      obtain ⟨y, hy, rfl⟩ := List.mem_map.1 ha
      simp at hb
      subst hb
      exact getK_none hg y hy
    · intro y hy
      rcases List.mem_append.1 hy with hy | hy
      · exact ⟨(h.made y hy).1.more x, (h.made y hy).2⟩
      · rw [List.mem_singleton.1 hy]; exact ⟨hm.more x, hb⟩
theorem MkOk.nil : MkOk [] := ⟨fun x hx => by simp at hx, List.Pairwise.nil, fun x hx => by simp at hx⟩
theorem RepAt.new (w : World) (vh : ByteArray) : RepAt (w.alloc (.cells #[.slice none 0 0, .slice none 0 0, .string vh, .bool false] 47)) (fun k => w.heap.size ≤ k) w.heap.size [] := by
  refine ⟨Nat.le_refl _, none, 0, .slice none 0 0, .string vh, false, ?_, OwnS.nil _ _ _ _, fun k hk => by simp [Value.ownBlock] at hk⟩
  exact Cel.new w _ #[.slice none 0 0, .slice none 0 0, .string vh, .bool false] _ (fun i hi => by
    have : i = 0 ∨ i = 1 ∨ i = 2 ∨ i = 3 := by simp at hi; omega
    rcases this with rfl | rfl | rfl | rfl <;> rfl)
def headW : ByteArray := ⟨#[114, 101, 102, 115, 47, 104, 101, 97, 100, 115, 47, 109, 97, 105, 110]⟩
def MakePost (w : World) (e : Ending) (w' : World) : Prop := Below w.heap.size w w' ∧ ∃ r R, e = .returned (.pointer (some ⟨r, 0, none⟩)) ∧ RepAt w' (fun k => w.heap.size ≤ k) r R ∧ MkOk R ∧ R.length ≤ 30
set_option maxRecDepth 100000 in
set_option maxHeartbeats 4000000 in
theorem make_any (A : Option Addr) (n c : Nat) (xs : List Int) (w : World) (hI : Ints .i64 w A xs) (hn : xs.length = n) (hnm : n ≤ 9223372036854775807) :
    Calls Tryz.prog 10 #[.slice A n c] w (MakePost w) := by
  have HI := Lib.hid hI
  have HN := Lib.hid hn
  have hR0 := RepAt.new w headW
  have hB0 : Below w.heap.size w (w.alloc (.cells #[.slice none 0 0, .slice none 0 0, .string headW, .bool false] 47)) := (Below.refl _ _).alloc (Nat.le_refl _) _
  unfold headW at hR0 hB0
  clear hI hn
  go_enter Tryz.func10, Tryz.ntmps10
  go_upto_region 2 with (fail)
  generalize w.alloc (.cells #[.slice none 0 0, .slice none 0 0, .string ⟨#[114, 101, 102, 115, 47, 104, 101, 97, 100, 115, 47, 109, 97, 105, 110]⟩, .bool false] 47) = w1 at *
  have HR0 := Lib.hid hR0
  have HB0 := Lib.hid hB0
  clear hR0 hB0
  generalize hr : w.heap.size = r at *
  go_wp2
  go_loopw [4] (fun vn wr => ∃ (i : Nat) (R : List Kn), vn = .int .i64 i ∧ i ≤ n ∧ i ≤ 30 ∧ RepAt wr (fun k => r ≤ k) r R ∧ MkOk R ∧ R.length ≤ i ∧ Below r w wr) (fun vn _ => 30 - (intOf vn).toNat)
  case atStart => exact ⟨0, [], rfl, by omega, by omega, HR0.out, MkOk.nil, Nat.le_refl _, HB0.out⟩
  case round =>
    obtain ⟨i, R, rfl, hin, hi30, hR, hM, hRl, hb⟩ := hrel
    have HR := Lib.hid hR
    have HM := Lib.hid hM
    have HB := Lib.hid hb
    have HL := Lib.hid hRl
    clear hR hM hb hRl
    by_cases hlt : i < n
    · have d1 : decide ((i : Int) < (n : Int)) = true := decide_eq_true (by omega)
      have d1' : decide (i < n) = true := decide_eq_true hlt
      by_cases hlt3 : i < 30
      · have d2 : decide ((i : Int) < 30) = true := decide_eq_true (by omega)
        have d2' : decide (i < 30) = true := decide_eq_true hlt3
        have hix : i < xs.length := by rw [HN.out]; exact hlt
        obtain ⟨b, o, hA, hbl, hcl⟩ := HI.out (by omega)
        have hc0 := hcl i hix
        subst hA
        generalize hxi : xs.getD i 0 = x at *
        have f0 := (HB.out.cell (p := ⟨b, o + i, none⟩) (by rw [← hr]; exact hbl)).trans hc0
        obtain ⟨N, hN, hN2⟩ := and65535 x
        obtain ⟨k, hk, hk2⟩ := and3 (N : Int)
        have hle : ¬ (n : Int) ≤ i := by omega
        have hn0 : (0 : Int) ≤ i := by omega
        have hnl : (i : Int) < n := by omega
        have hw1 : IntKind.i64.wrap ((i : Int) + 1) = (i : Int) + 1 := IntWalk.i64_in _ (by omega)
        have HAD := Lib.hid (ladd_any (fun k => r ≤ k) r R k (N / 4) wr HR.out (fun q hq => by have := HB.out.size; omega) (by have := HL.out; omega) HM.out.ids (by omega))
        clear hcl hc0 hbl hxi hix hN2 hk2
        go_wp2_with fail
        refine HAD.out.mono ?_
        rintro e w2 ⟨rfl, R', hR', hc', hst⟩
        have HM2 := Lib.hid (HM.out.step hst)
        have HR2 := Lib.hid hR'
        have HB2 := Lib.hid (HB.out.trans (hc'.below (by rw [← hr] at *; exact HB.out.size) (fun q hq h => by have h2 : r ≤ q := h; omega)))
        clear hR' hc' hst hr
        go_wp2
        go_roundw
        case rel => exact ⟨i + 1, R', rfl, hlt, hlt3, HR2.out, HM2.out.1, by have := HM2.out.2; have := HL.out; omega, HB2.out⟩
        case measure => simp [intOf]; omega
      · have d2 : decide ((i : Int) < 30) = false := decide_eq_false (by omega)
        have d2' : decide (i < 30) = false := decide_eq_false hlt3
        go_wp2
        go_ret
        exact ⟨by rw [hr]; exact HB.out, r, R, rfl, by rw [hr]; exact HR.out, HM.out, by have := HL.out; omega⟩
    · have d1 : decide ((i : Int) < (n : Int)) = false := decide_eq_false (by omega)
      have d1' : decide (i < n) = false := decide_eq_false hlt
      go_wp2
      go_ret
      exact ⟨by rw [hr]; exact HB.out, r, R, rfl, by rw [hr]; exact HR.out, HM.out, by have := HL.out; omega⟩
end Go.Proofs.YtihanglnjghcfaaGreatDoor
namespace Go.Proofs.YtihanglnjghcfaaGreatDoor
open Go.RowKit Go.Maps
set_option linter.unusedVariables false
set_option linter.unusedSimpArgs false

def holeK (R : List Kn) (gone : Gid) : List Kn := R.filter fun o => !(o.id == gone)
theorem holeK_len (R : List Kn) (gone : Gid) : (holeK R gone).length ≤ R.length := List.length_filter_le _ _
theorem holeK_take {R : List Kn} {gone : Gid} {i : Nat} {x : Kn} (h : R[i]? = some x) : holeK (R.take (i + 1)) gone = holeK (R.take i) gone ++ (if x.id = gone then [] else [x]) := by
  unfold holeK
  rw [List.take_add_one, h, List.filter_append]
  congr 1
  by_cases e : x.id = gone
  · rw [if_pos e]; simp [e]
  · rw [if_neg e]; simp [e]
theorem repSet0 {w : World} {r : Nat} {vO vR vH vT : Value} (h : Cel w r 47 4 (repF vO vR vH vT)) (v : Value) : Cel (w.setCell ⟨r, 0, none⟩ v) r 47 4 (repF v vR vH vT) :=
  (h.set 0 v).congr fun j hj => by
    have : j = 0 ∨ j = 1 ∨ j = 2 ∨ j = 3 := by omega
    rcases this with rfl | rfl | rfl | rfl <;> rfl
theorem own_base {w : World} {B size n c : Nat} {e : TypeId} {A : Option Addr} {xs : List Value} (h : OwnS w 0 e size (.slice A n c) n xs) (hK : ∀ k, Value.ownBlock (.slice A n c) = some k → B ≤ k) : OwnS w B e size (.slice A n c) n xs := by
  refine ⟨h.1, ?_⟩
  rcases h.2 with hh | ⟨g, off, cap, cur, hv, _, h1, h2, h3, h4, h5⟩
  · exact .inl hh
  · exact .inr ⟨g, off, cap, cur, hv, hK g (by rw [hv]; rfl), h1, h2, h3, h4, h5⟩
/-- What holds amid one more's being kept. -/
def IHo (w0 : World) (B r2 : Nat) (Q : List Kn) (x : Kn) (A0 : Option Addr) (c0 : Nat) (vR vH : Value) (vT : Bool) : List Value → World → Prop
  | [], w => Below w0.heap.size w0 w
  | [v], w => (∃ g, v = .slice (some ⟨g, 0, none⟩) 1 1 ∧ Src Tryz.prog w 3 v 1 (knV x)) ∧ Below w0.heap.size w0 w
  | [_, v], w => (∃ A c, v = .slice A (Q.length + 1) c ∧ OwnS w B 27 3 v (Q.length + 1) ((Q ++ [x]).flatMap knV)) ∧ Cel w r2 47 4 (repF (.slice A0 Q.length c0) vR vH (.bool vT)) ∧ Below B w0 w
  | _ :: _ :: _, w => RepAt w (fun k => B ≤ k) r2 (Q ++ [x]) ∧ Below B w0 w
set_option maxRecDepth 100000 in
set_option maxHeartbeats 4000000 in
theorem hole_any (K : Nat → Prop) (r : Nat) (R : List Kn) (gone : Gid) (w : World) (h : RepAt w K r R) (hl : R.length ≤ 1048576) :
    Calls Tryz.prog 14 #[.pointer (some ⟨r, 0, none⟩), .string (bk gone)] w fun e w' => Below w.heap.size w w' ∧ ∃ r2, e = .returned (.pointer (some ⟨r2, 0, none⟩)) ∧ RepAt w' (fun k => w.heap.size ≤ k) r2 (holeK R gone) := by
  obtain ⟨i0, hi, hz0, hz1, hz2⟩ := info_parts info_kn
  obtain ⟨_, A, c, _, _, _, hce, how, _⟩ := h
  have hG : Hid (∀ (i : Nat) (x : Kn), R[i]? = some x → ∃ b o, A = some ⟨b, o, none⟩ ∧ b < w.heap.size ∧ ∀ j, j < 3 → w.cell? ⟨b, o + i * 3 + j, none⟩ = (knV x)[j]?) := Lib.hid (fun i x hx => by
    obtain ⟨b, o, h1, _, h2, h3⟩ := OwnS.flat knV_len (by decide) how hx
    exact ⟨b, o, h1, h2, h3⟩)
  have HCE := Lib.hid hce
  have HL := Lib.hid hl
  have hR0 := RepAt.new w ⟨#[]⟩
  have hB0 : Below w.heap.size w (w.alloc (.cells #[.slice none 0 0, .slice none 0 0, .string ⟨#[]⟩, .bool false] 47)) := (Below.refl _ _).alloc (Nat.le_refl _) _
  clear hce how hl
  go_enter Tryz.func14, Tryz.ntmps14
  go_upto_region 2 with (fail)
  generalize w.alloc (.cells #[.slice none 0 0, .slice none 0 0, .string ⟨#[]⟩, .bool false] 47) = w1 at *
  have HR0 := Lib.hid hR0
  have HB0 := Lib.hid hB0
  clear hR0 hB0
  generalize hr2 : w.heap.size = r2 at *
  have HR2 := Lib.hid hr2
  go_wp2
  go_loopw [6] (fun vn wr => ∃ i : Nat, vn = .int .i64 i ∧ i ≤ R.length ∧ RepAt wr (fun k => r2 ≤ k) r2 (holeK (R.take i) gone) ∧ Below r2 w wr) (fun vn _ => R.length - (intOf vn).toNat)
  case atStart => exact ⟨0, rfl, by omega, HR0.out, HB0.out⟩
  case round =>
    obtain ⟨i, rfl, hin, hR, hb⟩ := hrel
    have HR := Lib.hid hR
    have HB := Lib.hid hb
    have k0 : wr.cell? ⟨r, 0, none⟩ = some (.slice A R.length c) := (HCE.out.below hb (by rw [← hr2]; exact HCE.out.blk)).cell 0 (by decide)
    clear hR hb
    by_cases hlt : i < R.length
    · have d1 : decide ((i : Int) < (R.length : Int)) = true := decide_eq_true (by omega)
      have d1' : decide (i < R.length) = true := decide_eq_true hlt
      obtain ⟨b, o, hA, hbl, hc⟩ := hG.out i R[i] (List.getElem?_eq_getElem hlt)
      subst hA
      have HTK := Lib.hid (holeK_take (gone := gone) (List.getElem?_eq_getElem hlt))
      generalize hx : R[i] = x at *
      have hbl2 : b < r2 := by first | exact hbl | (rw [← hr2]; exact hbl)
      have f0 : wr.cell? ⟨b, o + i * 3, none⟩ = some (.int .i64 x.kd) := (HB.out.cell (p := ⟨b, o + i * 3, none⟩) hbl2).trans (hc 0 (by decide))
      have f1 : wr.cell? ⟨b, o + i * 3 + 1, none⟩ = some (.string (bk x.b)) := (HB.out.cell (p := ⟨b, o + i * 3 + 1, none⟩) hbl2).trans (hc 1 (by decide))
      have f2 : wr.cell? ⟨b, o + i * 3 + 2, none⟩ = some (.string (bk x.id)) := (HB.out.cell (p := ⟨b, o + i * 3 + 2, none⟩) hbl2).trans (hc 2 (by decide))
      have hle : ¬ (R.length : Int) ≤ i := by omega
      have hn0 : (0 : Int) ≤ i := by omega
      have hnl : (i : Int) < R.length := by omega
      have hw1 : IntKind.i64.wrap ((i : Int) + 1) = (i : Int) + 1 := IntWalk.i64_in _ (by have := HL.out; omega)
      clear hc hx hbl
      by_cases he : x.id = gone
      · have q1 : ((bk x.id).toList == (bk gone).toList) = true := by rw [he]; simp
        have HTK2 : Hid (holeK (R.take (i + 1)) gone = holeK (R.take i) gone) := Lib.hid (by rw [HTK.out, if_pos he, List.append_nil])
        clear he
        go_wp2
        go_roundw
        case rel => exact ⟨i + 1, rfl, hlt, by rw [HTK2.out]; exact HR.out, HB.out⟩
        case measure => simp [intOf]; omega
      · have q1 : ((bk x.id).toList == (bk gone).toList) = false := by rw [Lib.toList_data, Lib.toList_data, bk_list, bk_list, beq_eq_false_iff_ne]; exact he
        have HTK2 : Hid (holeK (R.take (i + 1)) gone = holeK (R.take i) gone ++ [x]) := Lib.hid (by rw [HTK.out, if_neg he])
        have hQl : (holeK (R.take i) gone).length ≤ 1048576 := by have h1 := holeK_len (R.take i) gone; have h2 := HL.out; simp only [List.length_take] at h1; omega
        have HQL := Lib.hid hQl
        obtain ⟨_, A0, c0, vR, vH, vT, hce2, how2, hoK2⟩ := HR.out
        have hne2 : Value.ownBlock (.slice A0 (holeK (R.take i) gone).length c0) ≠ some r2 := how2.ne_cel hce2 (by decide)
        generalize hQ : holeK (R.take i) gone = Q at *
        have g0 : wr.cell? ⟨r2, 0, none⟩ = some (.slice A0 Q.length c0) := hce2.cell 0 (by decide)
        have HC2 := Lib.hid hce2
        have HO2 : Hid (OwnS wr r2 27 3 (.slice A0 Q.length c0) Q.length (Q.flatMap knV) ∧ Value.ownBlock (.slice A0 Q.length c0) ≠ some r2) := Lib.hid ⟨own_base how2 hoK2, hne2⟩
        have HF := Lib.hid (And.intro f0 (And.intro f1 (And.intro f2 (And.intro k0 g0))))
        have HBL2 := Lib.hid hbl2
        have HI0 := Lib.hid (show IHo wr r2 r2 Q x A0 c0 vR vH vT [] wr.drew from (Below.refl _ _).drew)
        clear he hce2 how2 hoK2 hne2 hQl hr2
        go_upto_region 6 with (fail)
        refine wp_region_ph (by kernel_rfl) [12, 13, 16] [.span 0 2, .span 0 1, .span 0 1, .span 0 1, .span 0 1, .span 0 0, .span 0 0, .span 0 0, .span 0 0, .span 0 0, .span 0 0, .span 0 0, .phase 0, .phase 1, .span 2 2, .span 2 2, .phase 2] [fun z9 => z9 = .pointer (some ⟨r2, 0, none⟩), fun z9 => z9 = .pointer (some ⟨r2, 0, none⟩), fun z9 => z9 = .pointer (some ⟨r2, 0, none⟩), fun z9 => z9 = .pointer (some ⟨r2, 0, none⟩), fun z9 => z9 = .slice A0 Q.length c0, fun z9 => z9 = .pointer (some ⟨r, 0, none⟩), fun z9 => z9 = .pointer (some ⟨r, 0, none⟩), fun z9 => z9 = .pointer (some ⟨r, 0, none⟩), fun z9 => z9 = .slice (some ⟨b, o, none⟩) R.length c, fun z9 => z9 = .int .i64 (i : Int), fun z9 => z9 = .pointer (some ⟨b, o + i * 3, none⟩), fun z9 => z9 = .agg #[.int .i64 x.kd, .string (bk x.b), .string (bk x.id)], fun _ => True, fun _ => True, fun z9 => z9 = .pointer (some ⟨r2, 0, none⟩), fun z9 => z9 = .pointer (some ⟨r2, 0, none⟩), fun _ => True] ((IHo wr r2 r2 Q x A0 c0 vR vH vT)) (by kernel_rfl) (by kernel_rfl) (by kernel_rfl) (by kernel_rfl) (by kernel_rfl) (by kernel_rfl) rfl rfl (HI0.out) ?steps ?done
        case steps =>
          refine ⟨?_, ?_, ?_, ?_, ?_, ?_, ?_, ?_, ?_, ?_, ?_, ?_, ?_, ?_, ?_, ?_, ?_, trivial⟩
          · intro us au w1 k0 hlo hhi ha hd hst hI
            have q5 := slot_far (t := 5) (v := .pointer (some ⟨r2, 0, none⟩)) ha (by kernel_rfl) (by kernel_rfl)
            have p5 := slot_norm q5
            clear ha hd hst
            exact StepI.pure (v := .pointer (some ⟨r2, 0, none⟩)) rfl rfl (by go_simp) ⟨rfl, hI⟩
          · intro us au w1 k1 hlo hhi ha hd hst hI
            have q5 := slot_far (t := 5) (v := .pointer (some ⟨r2, 0, none⟩)) ha (by kernel_rfl) (by kernel_rfl)
            have p5 := slot_norm q5
            clear ha hd hst
            exact StepI.pure (v := .pointer (some ⟨r2, 0, none⟩)) rfl rfl (by go_simp) ⟨rfl, hI⟩
          · intro us au w1 k2 hlo hhi ha hd hst hI
            have e1 := hd 1 _ (by kernel_rfl) rfl
            have q29 := slot_at (t := 29) 1 ha (by kernel_rfl) (by kernel_rfl) (by kernel_rfl) e1
            have p29 := slot_norm q29
            clear ha hd hst
            exact StepI.pure (v := .pointer (some ⟨r2, 0, none⟩)) rfl rfl (by go_simp) ⟨rfl, hI⟩
          · intro us au w1 k3 hlo hhi ha hd hst hI
            have e2 := hd 2 _ (by kernel_rfl) rfl
            have q30 := slot_at (t := 30) 2 ha (by kernel_rfl) (by kernel_rfl) (by kernel_rfl) e2
            have p30 := slot_norm q30
            clear ha hd hst
            exact StepI.pure (v := .pointer (some ⟨r2, 0, none⟩)) rfl rfl (by go_simp) ⟨rfl, hI⟩
          · intro us au w1 k4 hlo hhi ha hd hst hI
            have e3 := hd 3 _ (by kernel_rfl) rfl
            have q31 := slot_at (t := 31) 3 ha (by kernel_rfl) (by kernel_rfl) (by kernel_rfl) e3
            have p31 := slot_norm q31
            clear ha hd hst
            have hb : Below wr.heap.size wr w1 := by first | exact hI | (rcases (show k4 = 0 ∨ k4 = 1 by omega) with rfl | rfl <;> first | exact hI | exact hI.2)
            have kk : w1.cell? ⟨r2, 0, none⟩ = some (.slice A0 Q.length c0) := (hb.cell (p := ⟨r2, 0, none⟩) (block_lt HF.out.2.2.2.2)).trans HF.out.2.2.2.2
            exact StepI.pure (v := .slice A0 Q.length c0) rfl rfl (by go_simp) ⟨rfl, hI⟩
          · intro us au w1 k5 hlo hhi ha hd hst hI
            obtain rfl : k5 = 0 := by omega
            have q0 := slot_far (t := 0) (v := .pointer (some ⟨r, 0, none⟩)) ha (by kernel_rfl) (by kernel_rfl)
            have p0 := slot_norm q0
            clear ha hd hst
            exact StepI.pure (v := .pointer (some ⟨r, 0, none⟩)) rfl rfl (by go_simp) ⟨rfl, hI⟩
          · intro us au w1 k6 hlo hhi ha hd hst hI
            obtain rfl : k6 = 0 := by omega
            have e5 := hd 5 _ (by kernel_rfl) rfl
            have q33 := slot_at (t := 33) 5 ha (by kernel_rfl) (by kernel_rfl) (by kernel_rfl) e5
            have p33 := slot_norm q33
            clear ha hd hst
            exact StepI.pure (v := .pointer (some ⟨r, 0, none⟩)) rfl rfl (by go_simp) ⟨rfl, hI⟩
          · intro us au w1 k7 hlo hhi ha hd hst hI
            obtain rfl : k7 = 0 := by omega
            have e6 := hd 6 _ (by kernel_rfl) rfl
            have q34 := slot_at (t := 34) 6 ha (by kernel_rfl) (by kernel_rfl) (by kernel_rfl) e6
            have p34 := slot_norm q34
            clear ha hd hst
            exact StepI.pure (v := .pointer (some ⟨r, 0, none⟩)) rfl rfl (by go_simp) ⟨rfl, hI⟩
          · intro us au w1 k8 hlo hhi ha hd hst hI
            obtain rfl : k8 = 0 := by omega
            have e7 := hd 7 _ (by kernel_rfl) rfl
            have q35 := slot_at (t := 35) 7 ha (by kernel_rfl) (by kernel_rfl) (by kernel_rfl) e7
            have p35 := slot_norm q35
            clear ha hd hst
            have hb : Below wr.heap.size wr w1 := by first | exact hI | (rcases (show k8 = 0 ∨ k8 = 1 by omega) with rfl | rfl <;> first | exact hI | exact hI.2)
            have kk : w1.cell? ⟨r, 0, none⟩ = some (.slice (some ⟨b, o, none⟩) R.length c) := (hb.cell (p := ⟨r, 0, none⟩) (block_lt HF.out.2.2.2.1)).trans HF.out.2.2.2.1
            exact StepI.pure (v := .slice (some ⟨b, o, none⟩) R.length c) rfl rfl (by go_simp) ⟨rfl, hI⟩
          · intro us au w1 k9 hlo hhi ha hd hst hI
            obtain rfl : k9 = 0 := by omega
            have q6 := slot_far (t := 6) (v := .int .i64 (i : Int)) ha (by kernel_rfl) (by kernel_rfl)
            have p6 := slot_norm q6
            clear ha hd hst
            exact StepI.pure (v := .int .i64 (i : Int)) rfl rfl (by go_simp) ⟨rfl, hI⟩
          · intro us au w1 k10 hlo hhi ha hd hst hI
            obtain rfl : k10 = 0 := by omega
            have e8 := hd 8 _ (by kernel_rfl) rfl
            have e9 := hd 9 _ (by kernel_rfl) rfl
            have q36 := slot_at (t := 36) 8 ha (by kernel_rfl) (by kernel_rfl) (by kernel_rfl) e8
            have p36 := slot_norm q36
            have q37 := slot_at (t := 37) 9 ha (by kernel_rfl) (by kernel_rfl) (by kernel_rfl) e9
            have p37 := slot_norm q37
            clear ha hd hst
            exact StepI.pure (v := .pointer (some ⟨b, o + i * 3, none⟩)) rfl rfl (by go_simp) ⟨rfl, hI⟩
          · intro us au w1 k11 hlo hhi ha hd hst hI
            obtain rfl : k11 = 0 := by omega
            have e10 := hd 10 _ (by kernel_rfl) rfl
            have q38 := slot_at (t := 38) 10 ha (by kernel_rfl) (by kernel_rfl) (by kernel_rfl) e10
            have p38 := slot_norm q38
            clear ha hd hst
            have hb : Below wr.heap.size wr w1 := hI
            have kk0 : w1.cell? ⟨b, o + i * 3, none⟩ = some (.int .i64 x.kd) := (hb.cell (p := ⟨b, o + i * 3, none⟩) (block_lt HF.out.1)).trans HF.out.1
            have kk1 : w1.cell? ⟨b, o + i * 3 + 1, none⟩ = some (.string (bk x.b)) := (hb.cell (p := ⟨b, o + i * 3 + 1, none⟩) (block_lt HF.out.2.1)).trans HF.out.2.1
            have kk2 : w1.cell? ⟨b, o + i * 3 + 2, none⟩ = some (.string (bk x.id)) := (hb.cell (p := ⟨b, o + i * 3 + 2, none⟩) (block_lt HF.out.2.2.1)).trans HF.out.2.2.1
            exact StepI.pure (v := .agg #[.int .i64 x.kd, .string (bk x.b), .string (bk x.id)]) rfl rfl (by go_simp) ⟨rfl, hI⟩
          · intro us au w1 ha hd hst hI
            have e11 := hd 11 _ (by kernel_rfl) rfl
            have q39 := slot_at (t := 39) 11 ha (by kernel_rfl) (by kernel_rfl) (by kernel_rfl) e11
            have p39 := slot_norm q39
            clear ha hd hst
            exact StepI.runs (v := .slice (some ⟨w1.heap.size, 0, none⟩) 1 1) (w' := w1.alloc (.cells #[.int .i64 x.kd, .string (bk x.b), .string (bk x.id)] 27)) rfl rfl (by go_simp) ⟨trivial, ⟨w1.heap.size, rfl, Src.kn w1 x _⟩, Below.trans hI (((Below.refl _ _).alloc (Nat.le_refl _) _).mono (Below.size hI))⟩
          · intro us au w1 ha hd hst hI
            have e4 := hd 4 _ (by kernel_rfl) rfl
            obtain ⟨e12⟩ := hd 12 _ (by kernel_rfl) rfl
            have q32 := slot_at (t := 32) 4 ha (by kernel_rfl) (by kernel_rfl) (by kernel_rfl) e4
            have p32 := slot_norm q32
            have q40 := slot_at (t := 40) 12 ha (by kernel_rfl) (by kernel_rfl) (by kernel_rfl) (Eq.refl (us 12))
            have p40 := slot_norm q40
            clear ha hd hst
            obtain ⟨⟨gs, hv8, hsrc⟩, hb8⟩ := hI
            rw [hv8] at p40 hsrc
            refine StepI.wp rfl rfl ?_
            intro K9 hK9
            have ho8 := HO2.out.1.chg (S := fun _ => False) (Chg.of_below hb8) (fun _ _ h => h)
            refine wp_append_S (.tmp 32) (.tmp 40) 23 23 rfl i0 (.agg #[.int .i64 0, .string ⟨#[]⟩, .string ⟨#[]⟩]) 40 (.slice 27) Tryz.underlying23 Tryz.underlying23 (fun _ h => by cases h) hi hz0 hz1 hz2 rfl (by go_simp) (by go_simp) ho8 hsrc (by have := HQL.out; unfold maxLen; omega) (by have := HQL.out; omega) (by have h1 := hb8.size; have h2 : r2 < wr.heap.size := HC2.out.blk; omega) ?_
            intro A9 c9 w9 ho9 hg9 hw9
            have hbc : Below r2 wr w1 := hb8.mono (Nat.le_of_lt HC2.out.blk)
            refine hK9 _ _ ⟨trivial, ⟨A9, c9, rfl, by rw [List.flatMap_append]; exact ho9⟩, (HC2.out.below hb8 HC2.out.blk).grown hg9 HO2.out.2, hbc.grown hg9 (by have h1 := hb8.size; have h2 : r2 < wr.heap.size := HC2.out.blk; omega) (fun q h => (HO2.out.1.lt q h).1)⟩
          · intro us au w1 k14 hlo hhi ha hd hst hI
            obtain rfl : k14 = 2 := by omega
            have e0 := hd 0 _ (by kernel_rfl) rfl
            have q28 := slot_at (t := 28) 0 ha (by kernel_rfl) (by kernel_rfl) (by kernel_rfl) e0
            have p28 := slot_norm q28
            clear ha hd hst
            exact StepI.pure (v := .pointer (some ⟨r2, 0, none⟩)) rfl rfl (by go_simp) ⟨rfl, hI⟩
          · intro us au w1 k15 hlo hhi ha hd hst hI
            obtain rfl : k15 = 2 := by omega
            have e14 := hd 14 _ (by kernel_rfl) rfl
            have q42 := slot_at (t := 42) 14 ha (by kernel_rfl) (by kernel_rfl) (by kernel_rfl) e14
            have p42 := slot_norm q42
            clear ha hd hst
            exact StepI.pure (v := .pointer (some ⟨r2, 0, none⟩)) rfl rfl (by go_simp) ⟨rfl, hI⟩
          · intro us au w1 ha hd hst hI
            have e15 := hd 15 _ (by kernel_rfl) rfl
            obtain ⟨e13⟩ := hd 13 _ (by kernel_rfl) rfl
            have q43 := slot_at (t := 43) 15 ha (by kernel_rfl) (by kernel_rfl) (by kernel_rfl) e15
            have p43 := slot_norm q43
            have q41 := slot_at (t := 41) 13 ha (by kernel_rfl) (by kernel_rfl) (by kernel_rfl) (Eq.refl (us 13))
            have p41 := slot_norm q41
            clear ha hd hst
            obtain ⟨⟨A9, c9, hv9, ho9⟩, hcv9, hb9⟩ := hI
            rw [hv9] at p41 ho9
            have fz := Cel.frozen hcv9 0
            have kk := Cel.cell hcv9 0 (by decide)
            have hQ1 : (Q ++ [x]).length = Q.length + 1 := by simp
            refine StepI.stored (w' := w1.setCell ⟨r2, 0, none⟩ (.slice A9 (Q.length + 1) c9)) rfl rfl (by go_simp) ⟨trivial, ⟨Nat.le_refl _, A9, c9, vR, vH, vT, ?_, ?_, ?_⟩, hb9.setCell (p := ⟨r2, 0, none⟩) (Nat.le_refl _) _⟩
            · rw [hQ1]; exact repSet0 hcv9 _
            · rw [hQ1]; exact (ho9.base_ (Nat.zero_le _)).setFar (ho9.ne_cel hcv9 (by decide)) _
            · rw [hQ1]; exact fun q h => (ho9.lt q h).1
        case done =>
          intro us w1 hI hd
          have HI9 : Hid (RepAt w1 (fun k => r2 ≤ k) r2 (Q ++ [x]) ∧ Below r2 wr w1) := Lib.hid hI
          clear hI hd
          simp only [putAll]
          go_simp
          have HB9 := Lib.hid (HB.out.trans HI9.out.2)
          go_wp2
          go_roundw
          case rel => exact ⟨i + 1, rfl, hlt, by rw [HTK2.out]; exact HI9.out.1, HB9.out⟩
          case measure => simp [intOf]; omega
    · have d1 : decide ((i : Int) < (R.length : Int)) = false := decide_eq_false (by omega)
      have d1' : decide (i < R.length) = false := decide_eq_false hlt
      have HTA : Hid (R.take i = R) := Lib.hid (List.take_of_length_le (by omega))
      go_wp2
      go_ret
      exact ⟨by first | exact HB.out | (rw [hr2]; exact HB.out) | (rw [HR2.out]; exact HB.out), r2, rfl, by have := HR.out; rw [HTA.out] at this; first | exact this | (rw [hr2]; exact this) | (rw [HR2.out]; exact this)⟩
end Go.Proofs.YtihanglnjghcfaaGreatDoor
namespace Go.Proofs.YtihanglnjghcfaaGreatDoor
open Go.RowKit Go.Maps
set_option linter.unusedVariables false
set_option linter.unusedSimpArgs false

def idxK (R : List Kn) (d : Gid) : Option Nat := R.findIdx? fun o => o.id == d
/-- What is counted: one more at the place of the one asked. -/
def stepA (R : List Kn) (L : List Int) (d : Gid) : List Int := match idxK R d with | none => L | some i => L.set i (IntKind.i64.wrap (L.getD i 0 + 1))
def askF (R : List Kn) (qs : List Gid) : List Int := qs.foldl (stepA R) (List.replicate (R.length + 1) 0)
/-- How the counting function's memory lies. -/
structure OnceSt (r bR bA ba oa : Nat) (R : List Kn) (F : Nat → Prop) (qs : List Gid) (w : World) : Prop where
  low : ∀ k, F k → k < w.heap.size
  rep : RepAt w (fun k => F k ∧ k ≠ ba) r R
  fR : F bR
  fA : F bA
  fa : F ba
  cR : w.cell? ⟨bR, 0, none⟩ = some (.pointer (some ⟨r, 0, none⟩))
  cA : w.cell? ⟨bA, 0, none⟩ = some (.slice (some ⟨ba, oa, none⟩) (R.length + 1) (R.length + 1))
  row : OwnS w 0 3 1 (.slice (some ⟨ba, oa, none⟩) (R.length + 1) (R.length + 1)) (R.length + 1) ((askF R qs).map (Value.int .i64))
  nR : bR ≠ ba
  nA : bA ≠ ba
theorem OnceSt.keep {r bR bA ba oa : Nat} {R : List Kn} {F S : Nat → Prop} {qs : List Gid} {w w' : World} (h : OnceSt r bR bA ba oa R F qs w) (hc : Chg S w w') (hS : ∀ k, F k → ¬ S k) : OnceSt r bR bA ba oa R F qs w' where
  low := fun k hk => Nat.lt_of_lt_of_le (h.low k hk) hc.size
  rep := h.rep.keep hc (fun k hk _ => hS k hk.1) (fun k hk _ => hk)
  fR := h.fR
  fA := h.fA
  fa := h.fa
  cR := (World.cell?_of_block (hc.block bR (block_lt h.cR) (hS bR h.fR))).trans h.cR
  cA := (World.cell?_of_block (hc.block bA (block_lt h.cA) (hS bA h.fA))).trans h.cA
  row := h.row.chg hc fun k hk => hS k (by injection hk with hk; rw [← hk]; exact h.fa)
  nR := h.nR
  nA := h.nA
end Go.Proofs.YtihanglnjghcfaaGreatDoor
namespace Go.Proofs.YtihanglnjghcfaaGreatDoor
open Go.RowKit Go.Maps
set_option linter.unusedVariables false
set_option linter.unusedSimpArgs false

/-- What the closure answers. -/
def ClosAns (R : Except Int (List Git)) (w w' : World) (e : Ending) : Prop :=
  match R with
  | .error x => e = .returned (.tuple #[.slice none 0 0, .int .i64 x])
  | .ok m => ∃ A, e = .returned (.tuple #[.slice A m.length m.length, .int .i64 0]) ∧ OwnS w' w.heap.size 9 1 (.slice A m.length m.length) m.length (strVs (sortG (m.map (·.id))))
def ClosPost (St : (Nat → Prop) → List Gid → World → Prop) (F : Nat → Prop) (qs : List Gid) (R : Except Int (List Git)) (w : World) (e : Ending) (w' : World) : Prop :=
  ∃ F' qs', St F' (qs ++ qs') w' ∧ qs'.Nodup ∧ Chg F w w' ∧ (∀ k, F' k → F k ∨ w.heap.size ≤ k) ∧ ClosAns R w w' e
/-- What the walk keeps from round to round. -/
structure ClosI (St : (Nat → Prop) → List Gid → World → Prop) (F : Nat → Prop) (qs U : List Gid) (G : Gid → Option Kn) (rs : List Gid) (most : Int) (get : Value) (w : World) (g i : Nat) (l : List Git) (F1 : Nat → Prop) (wr : World) : Prop where
  st : St F1 (qs ++ (l.map (·.id)).take i) wr
  sub : ∀ k, F1 k → F k ∨ w.heap.size ≤ k
  chg : Chg F w wr
  at' : WalkAt wr (KOf w.heap.size F1) g get false l
  eq : closR G U rs most = goG (gobG G) most (U.length + 1 - i) i l
  one : OneG l
  inU : SubU U l
  le : i ≤ l.length
theorem EnvO.lt {w : World} (h : EnvO w) : 1 < w.heap.size ∧ 2 < w.heap.size :=
  ⟨block_lt (h.tabs.1 0 (by decide)), block_lt (a := ⟨2, 2 * 0, none⟩) (h.tabs.2 0 (by decide)).1⟩
set_option maxRecDepth 100000 in
set_option maxHeartbeats 4000000 in
theorem closure_any (hSo : SortsS) {f : FuncId} {c1 c2 : Value} {G : Gid → Option Kn} {St : (Nat → Prop) → List Gid → World → Prop} (hg : Getter f c1 c2 G St) {U : List Gid} (hU : Univ G U) (F : Nat → Prop) (qs : List Gid) (w : World) (A : Option Addr) (n c : Nat) (rs : List Gid) (most : Int)
    (hS : St F qs w) (hE : EnvO w) (h1 : ¬ F 1) (h2 : ¬ F 2) (hR : StrsAt w A (rs.map bk)) (hn : rs.length = n) (hl : n ≤ 268435456) (hs : ∀ r ∈ rs, r.length ≤ 1099511627776) (hrU : ∀ r ∈ rs, r ∈ U) :
    Calls Tryz.prog 16 #[fnV f c1 c2, .slice A n c, .int .i64 most] w (ClosPost St F qs (closR G U rs most) w) := by
  have HBE := Lib.hid (begin_any f c1 c2 A n c rs w hR hn hl hs)
  have HG := Lib.hid hg
  have HU := Lib.hid hU
  have HE := Lib.hid hE
  have HT := Lib.hid (And.intro hE.lt.1 (And.intro hE.lt.2 (And.intro h1 h2)))
  have HS0 := Lib.hid hS
  have HLO := Lib.hid (hg.low hS)
  have HRU := Lib.hid hrU
  have HSO := Lib.hid hSo
  clear hg hU hS hE h1 h2 hR hn hl hs hrU hSo
  unfold fnV at *
  go_enter Tryz.func16, Tryz.ntmps16
  go_wp2_with fail
  refine HBE.out.mono ?_
  rintro e w1 ⟨hb1, g, rfl, hw1⟩
  have HI0 : Hid (ClosI St F qs U G rs most (.func (.func f) #[] #[c1, c2]) w g 0 (rootsP [] rs) F w1) := Lib.hid {
    st := by simpa using HG.out.keep HS0.out (Chg.of_below (S := fun k => w.heap.size ≤ k) hb1) (fun k hk => Nat.not_le.2 (HLO.out k hk))
    sub := fun k hk => .inl hk
    chg := Chg.of_below hb1
    at' := hw1.keep (Chg.refl (fun _ => False) _) (fun _ _ _ h => h) (fun k hk _ => ⟨hk, fun h => by have := HLO.out k h; omega⟩)
    eq := rfl
    one := rootsP_one rs [] List.Pairwise.nil
    inU := rootsP_sub rs [] (fun x hx => by simp at hx) HRU.out
    le := Nat.zero_le _ }
  clear hb1 hw1
  go_wp2
  go_loopw [9] (fun vn wr => ∃ (i : Nat) (l : List Git) (F1 : Nat → Prop), vn = .int .i64 i ∧ ClosI St F qs U G rs most (.func (.func f) #[] #[c1, c2]) w g i l F1 wr) (fun vn _ => U.length - (intOf vn).toNat)
  case atStart => exact ⟨0, _, _, rfl, HI0.out⟩
  case round =>
    obtain ⟨i, l, F1, rfl, hI⟩ := hrel
    have HI := Lib.hid hI
    obtain ⟨_, A2, c2', _, _, hce, _⟩ := hI.at'
    have k1 : wr.cell? ⟨g, 1, none⟩ = some (.slice A2 l.length c2') := hce.cell 1 (by decide)
    have hlu := sub_len hI.one hI.inU
    have HLU := Lib.hid (And.intro hlu HU.out.num)
    clear hI hce hlu
    by_cases hlt : i < l.length
    · have d1 : decide ((i : Int) < (l.length : Int)) = true := decide_eq_true (by omega)
      have d1' : decide (i < l.length) = true := decide_eq_true hlt
      have HLT := Lib.hid hlt
      obtain ⟨M, hM⟩ : ∃ M, max most 0 = M := ⟨_, rfl⟩
      have HM : Hid (max most 0 = M) := Lib.hid hM
      by_cases hb : M ≤ (i : Int)
      · have d2 : decide (M ≤ (i : Int)) = true := decide_eq_true hb
        have HRES : Hid (closR G U rs most = .error 5) := Lib.hid (by rw [HI.out.eq, show U.length + 1 - i = (U.length - i) + 1 by have := HLU.out.1; omega]; exact goG_big hlt (by rw [HM.out]; exact hb))
        clear hb hlt
        go_wp2
        go_ret2
        rw [HRES.out]
        exact ⟨F1, _, HI.out.st, List.Nodup.sublist (List.take_sublist _ _) HI.out.one, HI.out.chg, HI.out.sub, rfl⟩
      · have d2 : decide (M ≤ (i : Int)) = false := decide_eq_false hb
        have HRES : Hid (closR G U rs most = if (lookW false (gobG G) l i).2 = 0 then goG (gobG G) most (U.length + 1 - (i + 1)) (i + 1) (lookW false (gobG G) l i).1 else .error (lookW false (gobG G) l i).2) := Lib.hid (by rw [HI.out.eq, show U.length + 1 - i = (U.length - i) + 1 by have := HLU.out.1; omega, show U.length + 1 - (i + 1) = U.length - i by omega]; exact goG_step hlt (by rw [HM.out]; exact hb))
        have hx : l[i]? = some l[i] := List.getElem?_eq_getElem hlt
        have HLK := Lib.hid (look_any HG.out F1 (qs ++ (l.map (·.id)).take i) wr w.heap.size g i false l l[i] HI.out.st (HE.out.chg HI.out.chg HT.out.2.2.1 HT.out.2.2.2) HT.out.1 HT.out.2.1 (fun h => by rcases HI.out.sub _ h with h | h; exact HT.out.2.2.1 h; have := HT.out.1; omega) (fun h => by rcases HI.out.sub _ h with h | h; exact HT.out.2.2.2 h; have := HT.out.2.1; omega) HI.out.chg.size HI.out.at' hx (by have := HLU.out; omega) (fun o ho => HU.out.sz _ o ho))
        have HQS : Hid (∀ t, qs ++ (l.map (·.id)).take i ++ [l[i].id] = qs ++ ((l.map (·.id)) ++ t).take (i + 1)) := Lib.hid (fun t => by
          rw [List.append_assoc]
          congr 1
          rw [List.take_append_of_le_length (by simp; omega), List.take_add_one, List.getElem?_map, hx]
          rfl)
        obtain ⟨t, ht⟩ := lookW_pre false (gobG G) l i
        have HPR := Lib.hid ht
        have HON := Lib.hid (lookW_one false (gobG G) i HI.out.one)
        have HSU := Lib.hid (lookW_sub HU.out false i HI.out.inU)
        have HLL : Hid (l.length ≤ (lookW false (gobG G) l i).1.length) := Lib.hid (by have := congrArg List.length ht; simp at this; omega)
        have hw1 : IntKind.i64.wrap ((i : Int) + 1) = (i : Int) + 1 := IntWalk.i64_in _ (by have := HLU.out; omega)
        rw [show (fun d => (G d).map gobK) = gobG G from rfl] at HLK
        unfold fnV at HLK
        unfold LookPost at HLK
        generalize l[i] = x at *
        clear hb hlt hx ht
        go_wp2_with fail
        refine HLK.out.mono ?_
        generalize lookW false (gobG G) l i = R at *
        rintro e w2 ⟨rfl, F2, hs2, hf2, hc2, hw2⟩
        obtain ⟨m, er⟩ := R
        dsimp only at *
        have HC2 : Hid (Chg F w w2) := Lib.hid (HI.out.chg.trans hc2 (fun k hk h => by
          rcases h with h | h
          · rcases HI.out.sub k h with h | h
            · exact h
            · omega
          · have := h.1; omega))
        have HF2 : Hid (∀ k, F2 k → F k ∨ w.heap.size ≤ k) := Lib.hid (fun k hk => by
          rcases hf2 k hk with h | h
          · exact HI.out.sub k h
          · have := HI.out.chg.size; exact .inr (by omega))
        have HS2 : Hid (St F2 (qs ++ (m.map (·.id)).take (i + 1)) w2) := Lib.hid (by rw [HPR.out, ← HQS.out]; exact hs2)
        have HW2 := Lib.hid hw2
        clear hs2 hf2 hc2 hw2
        by_cases h0 : er = 0
        · subst h0
          have h0 : (0 : Int) = 0 := rfl
          have HEQ : Hid (closR G U rs most = goG (gobG G) most (U.length + 1 - (i + 1)) (i + 1) m) := Lib.hid (by rw [HRES.out, if_pos h0])
          go_wp2
          go_roundw
          case rel => exact ⟨i + 1, m, F2, rfl, ⟨HS2.out, HF2.out, HC2.out, HW2.out, HEQ.out, HON.out, HSU.out, by have := HLL.out; have := HLT.out; omega⟩⟩
          case measure => have := HLU.out; have := HLT.out; simp [intOf]; omega
        · have HEQ : Hid (closR G U rs most = .error er) := Lib.hid (by rw [HRES.out, if_neg h0])
          go_wp2
          go_ret2
          rw [HEQ.out]
          exact ⟨F2, _, HS2.out, List.Nodup.sublist (List.take_sublist _ _) HON.out, HC2.out, HF2.out, rfl⟩
    · have d1 : decide ((i : Int) < (l.length : Int)) = false := decide_eq_false (by omega)
      have d1' : decide (i < l.length) = false := decide_eq_false hlt
      have HRES : Hid (closR G U rs most = .ok l) := Lib.hid (by rw [HI.out.eq]; exact goG_end (by omega))
      have HID := Lib.hid (ids_any HSO.out _ g _ false l wr HI.out.at' (by have := HLU.out; omega))
      clear hlt
      go_wp2_with fail
      refine HID.out.mono ?_
      rintro e w2 ⟨hb2, A3, rfl, ho2⟩
      have e1 : (sortG (l.map (·.id))).length = l.length := by rw [sortG_len, List.length_map]
      rw [e1] at ho2
      have HO2 := Lib.hid ho2
      have HB2 := Lib.hid hb2
      have HLW := Lib.hid (HG.out.low HI.out.st)
      have HE1 := Lib.hid e1
      clear hb2 ho2 e1
      go_wp2
      go_ret2
      rw [HRES.out]
      refine ⟨F1, _, HG.out.keep HI.out.st (Chg.of_below (S := fun k => wr.heap.size ≤ k) HB2.out) (fun k hk => Nat.not_le.2 (HLW.out k hk)), List.Nodup.sublist (List.take_sublist _ _) HI.out.one, HI.out.chg.trans (Chg.of_below (S := fun _ => False) HB2.out) (fun _ _ h => h.elim), HI.out.sub, A3, by rw [HE1.out]; rfl, HO2.out.base_ HI.out.chg.size⟩
end Go.Proofs.YtihanglnjghcfaaGreatDoor
namespace Go.Proofs.YtihanglnjghcfaaGreatDoor
open Go.RowKit
set_option linter.unusedVariables false
set_option linter.unusedSimpArgs false

/-- A number brought to a numeral, and used. -/
def forceI {α : Type} (x : Int) (k : Int → α) : α :=
  match x with
  | .ofNat 0 => k (.ofNat 0)
  | .ofNat (n + 1) => k (.ofNat (n + 1))
  | .negSucc n => k (.negSucc n)
theorem forceI_eq {α : Type} (x : Int) (k : Int → α) : forceI x k = k x := by
  unfold forceI
  split <;> rfl
def nextR (r : List Int) : Int := rotN 1 (bits .xor .u32 (bits .xor .u32 (bits .xor .u32 (r.getD 2 0) (r.getD 7 0)) (r.getD 13 0)) (r.getD 15 0))
def schF (xs : List Int) : Nat → Nat → List Int → List Int
  | 0, _, r => r
  | f + 1, t, r => forceI (if t < 16 then wordAt xs t else nextR r) fun w => schF xs f (t + 1) (w :: r)
theorem getD_rev (l : List Int) (j : Nat) (h : j < l.length) : l.reverse.getD j 0 = l.getD (l.length - 1 - j) 0 := by
  rw [List.getD_eq_getElem?_getD, List.getD_eq_getElem?_getD, List.getElem?_reverse h]
theorem schF_is (xs : List Int) : ∀ (f t : Nat), schF xs f t (schedTo xs t).reverse = (schedTo xs (t + f)).reverse
  | 0, t => rfl
  | f + 1, t => by
    unfold schF
    rw [forceI_eq]
    have e : (if t < 16 then wordAt xs t else nextR (schedTo xs t).reverse) :: (schedTo xs t).reverse = (schedTo xs (t + 1)).reverse := by
      rw [schedTo, List.reverse_append]
      by_cases h : t < 16
      · rw [if_pos h, if_pos h]; rfl
      · rw [if_neg h, if_neg h]
        have hl := schedTo_len xs t
        unfold nextR nextW
        rw [getD_rev _ _ (by omega), getD_rev _ _ (by omega), getD_rev _ _ (by omega), getD_rev _ _ (by omega), hl, show t - 1 - 2 = t - 3 by omega, show t - 1 - 7 = t - 8 by omega, show t - 1 - 13 = t - 14 by omega, show t - 1 - 15 = t - 16 by omega]
        rfl
    rw [e, schF_is xs f (t + 1), show t + 1 + f = t + (f + 1) by omega]
def runF (t : Nat) : List Int → Int → Int → Int → Int → Int → H5
  | [], a, b, c, d, e => ⟨a, b, c, d, e⟩
  | w :: W, a, b, c, d, e => forceI ((rotN 5 a + fT t b c d + e + kT t + w) % 4294967296) fun m => forceI (rotN 30 b) fun b' => runF (t + 1) W m a b' c d
theorem runF_is (xs : List Int) (h : H5) : ∀ (W : List Int) (t : Nat) (a b c d e : Int), (schedTo xs 80).drop t = W → (⟨a, b, c, d, e⟩ : H5) = runH xs h t → runF t W a b c d e = runH xs h (t + W.length)
  | [], t, a, b, c, d, e, _, hs => hs
  | w :: W, t, a, b, c, d, e, hd, hs => by
    have h1 : (schedTo xs 80).drop (t + 1) = W := by rw [← List.drop_drop, hd]; rfl
    have h2 : (schedTo xs 80).getD t 0 = w := by
      have := congrArg (fun l => l[0]?) hd
      simp only [List.getElem?_drop, Nat.add_zero, List.getElem?_cons_zero] at this
      rw [List.getD_eq_getElem?_getD, this]; rfl
    unfold runF
    rw [forceI_eq, forceI_eq, runF_is xs h W (t + 1) _ _ _ _ _ h1 (by rw [runH, ← hs]; unfold stepH; rw [h2]), List.length_cons, show t + 1 + W.length = t + (W.length + 1) by omega]
def mixK {α : Type} (h : H5) (xs : List Int) (k : H5 → α) : α :=
  match runF 0 (schF xs 80 0 []).reverse h.a h.b h.c h.d h.e with
  | ⟨a, b, c, d, e⟩ => forceI ((h.a + a) % 4294967296) fun a => forceI ((h.b + b) % 4294967296) fun b => forceI ((h.c + c) % 4294967296) fun c => forceI ((h.d + d) % 4294967296) fun d => forceI ((h.e + e) % 4294967296) fun e => k ⟨a, b, c, d, e⟩
theorem mixK_is {α : Type} (h : H5) (xs : List Int) (k : H5 → α) : mixK h xs k = k (mixH h xs) := by
  have e1 : (schF xs 80 0 []).reverse = schedTo xs 80 := by
    have := schF_is xs 80 0
    rw [show (schedTo xs 0).reverse = [] from rfl] at this
    rw [this, List.reverse_reverse, Nat.zero_add]
  have e2 := runF_is xs h (schedTo xs 80) 0 h.a h.b h.c h.d h.e (List.drop_zero) rfl
  rw [schedTo_len, Nat.zero_add] at e2
  unfold mixK
  rw [e1, e2]
  unfold mixH
  simp only [forceI_eq]
def fbF (n : Nat) (h : H5) (r : List Int) : H5 := match n with
  | 0 => h
  | n + 1 => mixK h r fun h' => fbF n h' (r.drop 64)
theorem fbF_is : ∀ (n : Nat) (h : H5) (r : List Int), fbF n h r = fb n h r
  | 0, h, r => rfl
  | n + 1, h, r => by
    unfold fbF fb
    rw [mixK_is, fbF_is n]
/-- SHA-1 of a message of so many blocks. -/
def shaF (n : Nat) (M : List Int) : List Int := shaTo (fbF n h0 M) 5
theorem shaF_is {xs M out : List Int} {n : Nat} (h1 : shaMsg xs (xs.length : Int) = M) (h2 : M.length / 64 = n) (h3 : shaF n M = out) : shaAll xs = out := by
  rw [shaAll_eq, h1, h2, ← fbF_is]
  exact h3
theorem digL_2 (n : Nat) (h1 : 9 < n) (h2 : n < 100) : digL n = [48 + ((n / 10 : Nat) : Int), 48 + ((n % 10 : Nat) : Int)] := by
  rw [digL_big h1, digL_small (by omega)]; rfl
end Go.Proofs.YtihanglnjghcfaaGreatDoor
namespace Go.Proofs.YtihanglnjghcfaaGreatDoor
open Go.RowKit
set_option linter.unusedVariables false

def et_b : List UInt8 := []
def et_d : Gid := [52, 98, 56, 50, 53, 100, 99, 54, 52, 50, 99, 98, 54, 101, 98, 57, 97, 48, 54, 48, 101, 53, 52, 98, 102, 56, 100, 54, 57, 50, 56, 56, 102, 98, 101, 101, 52, 57, 48, 52]
def et_M : List Int := [116, 114, 101, 101, 32, 48, 0, 128, 0, 0, 0, 0, 0, 0, 0, 0, 0, 0, 0, 0, 0, 0, 0, 0, 0, 0, 0, 0, 0, 0, 0, 0, 0, 0, 0, 0, 0, 0, 0, 0, 0, 0, 0, 0, 0, 0, 0, 0, 0, 0, 0, 0, 0, 0, 0, 0, 0, 0, 0, 0, 0, 0, 0, 56]
theorem et_head : headL 2 0 = [116, 114, 101, 101, 32, 48, 0] := by
  unfold headL
  rw [digL_small (by decide)]
  decide
theorem et_sha : shaF 1 et_M = [75, 130, 93, 198, 66, 203, 110, 185, 160, 96, 229, 75, 248, 214, 146, 136, 251, 238, 73, 4] := by decide +kernel
theorem et_msg : shaMsg ([116, 114, 101, 101, 32, 48, 0] ++ bytesOf (bk et_b)) 7 = et_M := by decide +kernel
theorem et_id : idK 2 et_b = et_d := by
  unfold idK
  rw [show (bk et_b).size = 0 by decide +kernel, et_head, shaF_is (xs := [116, 114, 101, 101, 32, 48, 0] ++ bytesOf (bk et_b)) et_msg (by decide +kernel) et_sha]
  decide +kernel
def ec_b : List UInt8 := [116, 114, 101, 101, 32, 52, 98, 56, 50, 53, 100, 99, 54, 52, 50, 99, 98, 54, 101, 98, 57, 97, 48, 54, 48, 101, 53, 52, 98, 102, 56, 100, 54, 57, 50, 56, 56, 102, 98, 101, 101, 52, 57, 48, 52, 10, 97, 117, 116, 104, 111, 114, 32, 65, 32, 60, 97, 62, 32, 49, 32, 43, 48, 48, 48, 48, 10, 99, 111, 109, 109, 105, 116, 116, 101, 114, 32, 65, 32, 60, 97, 62, 32, 49, 32, 43, 48, 48, 48, 48, 10, 10]
def ec_d : Gid := [54, 101, 49, 57, 99, 57, 50, 100, 99, 101, 56, 102, 49, 50, 48, 97, 50, 99, 101, 50, 100, 99, 100, 52, 100, 97, 57, 56, 49, 102, 48, 97, 51, 56, 55, 57, 57, 57, 55, 97]
def ec_M : List Int := [99, 111, 109, 109, 105, 116, 32, 57, 50, 0, 116, 114, 101, 101, 32, 52, 98, 56, 50, 53, 100, 99, 54, 52, 50, 99, 98, 54, 101, 98, 57, 97, 48, 54, 48, 101, 53, 52, 98, 102, 56, 100, 54, 57, 50, 56, 56, 102, 98, 101, 101, 52, 57, 48, 52, 10, 97, 117, 116, 104, 111, 114, 32, 65, 32, 60, 97, 62, 32, 49, 32, 43, 48, 48, 48, 48, 10, 99, 111, 109, 109, 105, 116, 116, 101, 114, 32, 65, 32, 60, 97, 62, 32, 49, 32, 43, 48, 48, 48, 48, 10, 10, 128, 0, 0, 0, 0, 0, 0, 0, 0, 0, 0, 0, 0, 0, 0, 0, 0, 0, 0, 0, 0, 0, 0, 0, 3, 48]
theorem ec_head : headL 1 92 = [99, 111, 109, 109, 105, 116, 32, 57, 50, 0] := by
  unfold headL
  rw [digL_2 _ (by decide) (by decide)]
  decide
theorem ec_sha : shaF 2 ec_M = [110, 25, 201, 45, 206, 143, 18, 10, 44, 226, 220, 212, 218, 152, 31, 10, 56, 121, 153, 122] := by decide +kernel
theorem ec_msg : shaMsg ([99, 111, 109, 109, 105, 116, 32, 57, 50, 0] ++ bytesOf (bk ec_b)) 102 = ec_M := by decide +kernel
theorem ec_id : idK 1 ec_b = ec_d := by
  unfold idK
  rw [show (bk ec_b).size = 92 by decide +kernel, ec_head, shaF_is (xs := [99, 111, 109, 109, 105, 116, 32, 57, 50, 0] ++ bytesOf (bk ec_b)) ec_msg (by decide +kernel) ec_sha]
  decide +kernel
theorem ec_ne : et_d ≠ ec_d := by decide
end Go.Proofs.YtihanglnjghcfaaGreatDoor
namespace Go.Proofs.YtihanglnjghcfaaGreatDoor
open Go.RowKit Go.Maps
set_option linter.unusedVariables false
set_option linter.unusedSimpArgs false

def CheckPost (St : (Nat → Prop) → List Gid → World → Prop) (F : Nat → Prop) (qs : List Gid) (R : Except Int (List Git)) (w : World) (e : Ending) (w' : World) : Prop :=
  (∃ F' qs', St F' (qs ++ qs') w' ∧ Chg F w w' ∧ (∀ k, F' k → F k ∨ w.heap.size ≤ k)) ∧ e = .returned (.int .i64 (match R with | .error x => x | .ok _ => 0))
set_option maxRecDepth 100000 in
theorem check_any (hSo : SortsS) {f : FuncId} {c1 c2 : Value} {G : Gid → Option Kn} {St : (Nat → Prop) → List Gid → World → Prop} (hg : Getter f c1 c2 G St) {U : List Gid} (hU : Univ G U) (F : Nat → Prop) (qs : List Gid) (w : World) (A : Option Addr) (n c : Nat) (rs : List Gid) (most : Int)
    (hS : St F qs w) (hE : EnvO w) (h1 : ¬ F 1) (h2 : ¬ F 2) (hR : StrsAt w A (rs.map bk)) (hn : rs.length = n) (hl : n ≤ 268435456) (hs : ∀ r ∈ rs, r.length ≤ 1099511627776) (hrU : ∀ r ∈ rs, r ∈ U) :
    Calls Tryz.prog 20 #[fnV f c1 c2, .slice A n c, .int .i64 most] w (CheckPost St F qs (closR G U rs most) w) := by
  have HC := Lib.hid (closure_any hSo hg hU F qs w A n c rs most hS hE h1 h2 hR hn hl hs hrU)
  clear hg hU hS hE h1 h2 hR hn hl hs hrU
  generalize closR G U rs most = R at *
  unfold fnV at *
  go_enter Tryz.func20, Tryz.ntmps20
  go_wp2_with fail
  refine HC.out.mono ?_
  rintro e w1 ⟨F', qs', hs, _, hc, hf, ha⟩
  cases R with
  | error x =>
    obtain rfl := ha
    have HF := Lib.hid (And.intro hs (And.intro hc hf))
    clear hs hc hf
    go_wp2
    go_ret
    exact ⟨⟨F', qs', HF.out.1, HF.out.2.1, HF.out.2.2⟩, rfl⟩
  | ok m =>
    obtain ⟨A2, rfl, _⟩ := ha
    have HF := Lib.hid (And.intro hs (And.intro hc hf))
    clear hs hc hf
    go_wp2
    go_ret
    exact ⟨⟨F', qs', HF.out.1, HF.out.2.1, HF.out.2.2⟩, rfl⟩
/-- The fixed history. -/
def awR : List Kn := [⟨2, [], et_d⟩, ⟨1, ec_b, ec_d⟩]
theorem aw_one : addK [] 2 [] = [⟨2, [], et_d⟩] := by
  unfold addK
  rw [show idK 2 [] = et_d from et_id]
  rfl
theorem aw_two : addK [⟨2, [], et_d⟩] 1 ec_b = awR := by
  unfold addK
  rw [ec_id]
  have : getK [⟨2, [], et_d⟩] ec_d = none := by
    unfold getK
    rw [List.find?_eq_none]
    intro x hx
    simp at hx
    subst hx
    simp
    exact ec_ne
  rw [this]
  rfl
theorem aw_lk1 : lkOf 1 ec_b = some [⟨bk et_d, 2⟩] := by kernel_rfl
theorem aw_lk2 : lkOf 2 [] = some [] := by kernel_rfl
theorem aw_bytes : strOfNums (commitL (bk et_d) [] perW perW ⟨#[]⟩) = bk ec_b := by kernel_rfl
theorem aw_get {d : Gid} {o : Kn} (h : withoutK awR [] d = some o) : o = ⟨2, [], et_d⟩ ∨ o = ⟨1, ec_b, ec_d⟩ := by
  unfold withoutK at h
  split at h
  · cases h
  · have := List.mem_of_find?_eq_some h
    simpa [awR] using this
theorem aw_univ : Univ (withoutK awR []) [ec_d, et_d] where
  num := by simp
  sz := fun d o h => by
    rcases aw_get h with rfl | rfl
    · simp
    · show ec_b.length ≤ _; decide
  lk := fun d o ks h hk k hkm => by
    rcases aw_get h with rfl | rfl
    · rw [show lkOf 2 [] = some [] from aw_lk2] at hk
      injection hk with hk; subst hk; simp at hkm
    · rw [show lkOf 1 ec_b = _ from aw_lk1] at hk
      injection hk with hk; subst hk; simp at hkm
      subst hkm
      show (bk et_d).data.toList ∈ _
      rw [bk_list]; simp
theorem aw_clos9 : closR (withoutK awR []) [ec_d, et_d] [ec_d] 9 = .ok [⟨ec_d, 1⟩, ⟨et_d, 2⟩] := by kernel_rfl
theorem aw_clos1 : closR (withoutK awR []) [ec_d, et_d] [ec_d] 1 = .error 5 := by kernel_rfl
end Go.Proofs.YtihanglnjghcfaaGreatDoor
