/- The law's Make: a history out of small numbers. -/
import Derived.Test.YtihanglnjghcfaaGreatDoorGAg17
import Derived.Test.YtihanglnjghcfaaGreatDoorGAg14
import Derived.Deep.CutBlock
import Derived.Deep.DeepCutAuto
import Derived.Test.YtihanglnjghcfaaGreatDoorGAg13
import Derived.Test.YtihanglnjghcfaaGreatDoorGAg12
import Derived.Maps.Range
namespace Go.Proofs.YtihanglnjghcfaaGreatDoor
open Go.RowKit Go.Maps
set_option linter.unusedVariables false
set_option linter.unusedSimpArgs false

theorem and65535 (n : Int) : ∃ N : Nat, bits .and .i64 n 65535 = (N : Int) ∧ N < 65536 := by
  have h127 : (BitVec.ofInt 64 65535).toNat = 2 ^ 16 - 1 := by decide
  have key : (BitVec.ofInt 64 n &&& BitVec.ofInt 64 65535).toNat = (n % ((2 ^ 64 : Nat) : Int)).toNat % 2 ^ 16 := by
    rw [BitVec.toNat_and, BitVec.toNat_ofInt, h127, Nat.and_two_pow_sub_one_eq_mod]
  refine ⟨(n % ((2 ^ 64 : Nat) : Int)).toNat % 2 ^ 16, ?_, by omega⟩
  show IntKind.i64.wrap ((BitVec.ofInt 64 n &&& BitVec.ofInt 64 65535).toNat : Nat) = _
  rw [key, IntWalk.i64_in _ (by omega)]
theorem and3 (n : Int) : ∃ N : Nat, bits .and .i64 n 3 = (N : Int) ∧ N < 4 := by
  have h127 : (BitVec.ofInt 64 3).toNat = 2 ^ 2 - 1 := by decide
  have key : (BitVec.ofInt 64 n &&& BitVec.ofInt 64 3).toNat = (n % ((2 ^ 64 : Nat) : Int)).toNat % 2 ^ 2 := by
    rw [BitVec.toNat_and, BitVec.toNat_ofInt, h127, Nat.and_two_pow_sub_one_eq_mod]
  refine ⟨(n % ((2 ^ 64 : Nat) : Int)).toNat % 2 ^ 2, ?_, by omega⟩
  show IntKind.i64.wrap ((BitVec.ofInt 64 n &&& BitVec.ofInt 64 3).toNat : Nat) = _
  rw [key, IntWalk.i64_in _ (by omega)]
/-- A made history. -/
structure MkOk (R : List Kn) : Prop where
  ids : IdR R
  one : (R.map (·.id)).Nodup
  made : ∀ x ∈ R, MadeIn R x ∧ x.b.length ≤ 2000
theorem HasK.more {R : List Kn} {k : Int} {d : Gid} (h : HasK R k d) (x : Kn) : HasK (R ++ [x]) k d := by
  obtain ⟨y, hy, h1, h2⟩ := h
  exact ⟨y, List.mem_append_left _ hy, h1, h2⟩
theorem MadeIn.more {R : List Kn} {x : Kn} (h : MadeIn R x) (z : Kn) : MadeIn (R ++ [z]) x := by
  rcases h with h | ⟨h0, u, hu, h⟩ | ⟨h0, c, N, hc, h⟩ | ⟨h0, t, P, N, ht, hP, h⟩
  · exact .inl h
  · refine .inr (.inl ⟨h0, u, hu.more z, ?_⟩)
    rcases h with h | ⟨N, t, hN, ht, h⟩
    · exact .inl h
    · exact .inr ⟨N, t, hN, ht.more z, h⟩
  · exact .inr (.inr (.inl ⟨h0, c, N, hc.more z, h⟩))
  · exact .inr (.inr (.inr ⟨h0, t, P, N, ht.more z, fun p hp => (hP p hp).more z, h⟩))
theorem getK_none {R : List Kn} {d : Gid} (h : getK R d = none) : ∀ x ∈ R, x.id ≠ d := fun x hx he => by
  unfold getK at h
  rw [List.find?_eq_none] at h
  exact h x hx (by simp [he])
theorem MkOk.step {R R' : List Kn} (h : MkOk R) (hs : MadeStep R R') : MkOk R' ∧ R'.length ≤ R.length + 1 := by
  rcases hs with rfl | ⟨x, rfl, hg, hid, hm, hb⟩
  · exact ⟨h, by omega⟩
  · refine ⟨⟨?_, ?_, ?_⟩, by simp⟩
    · intro y hy
      rcases List.mem_append.1 hy with hy | hy
      · exact h.ids y hy
      · rw [List.mem_singleton.1 hy]; exact hid
    · rw [List.map_append, List.nodup_append]
      refine ⟨h.one, by simp, fun a ha b hb => ?_⟩
      obtain ⟨y, hy, rfl⟩ := List.mem_map.1 ha
      simp at hb
      subst hb
      exact getK_none hg y hy
    · intro y hy
      rcases List.mem_append.1 hy with hy | hy
      · exact ⟨(h.made y hy).1.more x, (h.made y hy).2⟩
      · rw [List.mem_singleton.1 hy]; exact ⟨hm.more x, hb⟩
theorem MkOk.nil : MkOk [] := ⟨fun x hx => by simp at hx, List.Pairwise.nil, fun x hx => by simp at hx⟩
theorem RepAt.new (w : World) (vh : ByteArray) : RepAt (w.alloc (.cells #[.slice none 0 0, .slice none 0 0, .string vh, .bool false] 47)) (fun k => w.heap.size ≤ k) w.heap.size [] := by
  refine ⟨Nat.le_refl _, none, 0, .slice none 0 0, .string vh, false, ?_, OwnS.nil _ _ _ _, fun k hk => by simp [Value.ownBlock] at hk⟩
  exact Cel.new w _ #[.slice none 0 0, .slice none 0 0, .string vh, .bool false] _ (fun i hi => by
    have : i = 0 ∨ i = 1 ∨ i = 2 ∨ i = 3 := by simp at hi; omega
    rcases this with rfl | rfl | rfl | rfl <;> rfl)
def headW : ByteArray := ⟨#[114, 101, 102, 115, 47, 104, 101, 97, 100, 115, 47, 109, 97, 105, 110]⟩
def MakePost (w : World) (e : Ending) (w' : World) : Prop := Below w.heap.size w w' ∧ ∃ r R, e = .returned (.pointer (some ⟨r, 0, none⟩)) ∧ RepAt w' (fun k => w.heap.size ≤ k) r R ∧ MkOk R ∧ R.length ≤ 30
set_option maxRecDepth 100000 in
set_option maxHeartbeats 4000000 in
theorem make_any (A : Option Addr) (n c : Nat) (xs : List Int) (w : World) (hI : Ints .i64 w A xs) (hn : xs.length = n) (hnm : n ≤ 9223372036854775807) :
    Calls Tryz.prog 10 #[.slice A n c] w (MakePost w) := by
  have HI := Lib.hid hI
  have HN := Lib.hid hn
  have hR0 := RepAt.new w headW
  have hB0 : Below w.heap.size w (w.alloc (.cells #[.slice none 0 0, .slice none 0 0, .string headW, .bool false] 47)) := (Below.refl _ _).alloc (Nat.le_refl _) _
  unfold headW at hR0 hB0
  clear hI hn
  go_enter Tryz.func10, Tryz.ntmps10
  go_upto_region 2 with (fail)
  generalize w.alloc (.cells #[.slice none 0 0, .slice none 0 0, .string ⟨#[114, 101, 102, 115, 47, 104, 101, 97, 100, 115, 47, 109, 97, 105, 110]⟩, .bool false] 47) = w1 at *
  have HR0 := Lib.hid hR0
  have HB0 := Lib.hid hB0
  clear hR0 hB0
  generalize hr : w.heap.size = r at *
  go_wp2
  go_loopw [4] (fun vn wr => ∃ (i : Nat) (R : List Kn), vn = .int .i64 i ∧ i ≤ n ∧ i ≤ 30 ∧ RepAt wr (fun k => r ≤ k) r R ∧ MkOk R ∧ R.length ≤ i ∧ Below r w wr) (fun vn _ => 30 - (intOf vn).toNat)
  case atStart => exact ⟨0, [], rfl, by omega, by omega, HR0.out, MkOk.nil, Nat.le_refl _, HB0.out⟩
  case round =>
    obtain ⟨i, R, rfl, hin, hi30, hR, hM, hRl, hb⟩ := hrel
    have HR := Lib.hid hR
    have HM := Lib.hid hM
    have HB := Lib.hid hb
    have HL := Lib.hid hRl
    clear hR hM hb hRl
    by_cases hlt : i < n
    · have d1 : decide ((i : Int) < (n : Int)) = true := decide_eq_true (by omega)
      have d1' : decide (i < n) = true := decide_eq_true hlt
      by_cases hlt3 : i < 30
      · have d2 : decide ((i : Int) < 30) = true := decide_eq_true (by omega)
        have d2' : decide (i < 30) = true := decide_eq_true hlt3
        have hix : i < xs.length := by rw [HN.out]; exact hlt
        obtain ⟨b, o, hA, hbl, hcl⟩ := HI.out (by omega)
        have hc0 := hcl i hix
        subst hA
        generalize hxi : xs.getD i 0 = x at *
        have f0 := (HB.out.cell (p := ⟨b, o + i, none⟩) (by rw [← hr]; exact hbl)).trans hc0
        obtain ⟨N, hN, hN2⟩ := and65535 x
        obtain ⟨k, hk, hk2⟩ := and3 (N : Int)
        have hle : ¬ (n : Int) ≤ i := by omega
        have hn0 : (0 : Int) ≤ i := by omega
        have hnl : (i : Int) < n := by omega
        have hw1 : IntKind.i64.wrap ((i : Int) + 1) = (i : Int) + 1 := IntWalk.i64_in _ (by omega)
        have HAD := Lib.hid (ladd_any (fun k => r ≤ k) r R k (N / 4) wr HR.out (fun q hq => by have := HB.out.size; omega) (by have := HL.out; omega) HM.out.ids (by omega))
        clear hcl hc0 hbl hxi hix hN2 hk2
        go_wp2_with fail
        refine HAD.out.mono ?_
        rintro e w2 ⟨rfl, R', hR', hc', hst⟩
        have HM2 := Lib.hid (HM.out.step hst)
        have HR2 := Lib.hid hR'
        have HB2 := Lib.hid (HB.out.trans (hc'.below (by rw [← hr] at *; exact HB.out.size) (fun q hq h => by have h2 : r ≤ q := h; omega)))
        clear hR' hc' hst hr
        go_wp2
        go_roundw
        case rel => exact ⟨i + 1, R', rfl, hlt, hlt3, HR2.out, HM2.out.1, by have := HM2.out.2; have := HL.out; omega, HB2.out⟩
        case measure => simp [intOf]; omega
      · have d2 : decide ((i : Int) < 30) = false := decide_eq_false (by omega)
        have d2' : decide (i < 30) = false := decide_eq_false hlt3
        go_wp2
        go_ret
        exact ⟨by rw [hr]; exact HB.out, r, R, rfl, by rw [hr]; exact HR.out, HM.out, by have := HL.out; omega⟩
    · have d1 : decide ((i : Int) < (n : Int)) = false := decide_eq_false (by omega)
      have d1' : decide (i < n) = false := decide_eq_false hlt
      go_wp2
      go_ret
      exact ⟨by rw [hr]; exact HB.out, r, R, rfl, by rw [hr]; exact HR.out, HM.out, by have := HL.out; omega⟩
end Go.Proofs.YtihanglnjghcfaaGreatDoor
namespace Go.Proofs.YtihanglnjghcfaaGreatDoor
open Go.RowKit Go.Maps
set_option linter.unusedVariables false
set_option linter.unusedSimpArgs false

def CheckPost (St : (Nat → Prop) → List Gid → World → Prop) (F : Nat → Prop) (qs : List Gid) (R : Except Int (List Git)) (w : World) (e : Ending) (w' : World) : Prop :=
  (∃ F' qs', St F' (qs ++ qs') w' ∧ Chg F w w' ∧ (∀ k, F' k → F k ∨ w.heap.size ≤ k)) ∧ e = .returned (.int .i64 (match R with | .error x => x | .ok _ => 0))
set_option maxRecDepth 100000 in
theorem check_any (hSo : SortsS) {f : FuncId} {c1 c2 : Value} {G : Gid → Option Kn} {St : (Nat → Prop) → List Gid → World → Prop} (hg : Getter f c1 c2 G St) {U : List Gid} (hU : Univ G U) (F : Nat → Prop) (qs : List Gid) (w : World) (A : Option Addr) (n c : Nat) (rs : List Gid) (most : Int)
    (hS : St F qs w) (hE : EnvO w) (h1 : ¬ F 1) (h2 : ¬ F 2) (hR : StrsAt w A (rs.map bk)) (hn : rs.length = n) (hl : n ≤ 268435456) (hs : ∀ r ∈ rs, r.length ≤ 1099511627776) (hrU : ∀ r ∈ rs, r ∈ U) :
    Calls Tryz.prog 20 #[fnV f c1 c2, .slice A n c, .int .i64 most] w (CheckPost St F qs (closR G U rs most) w) := by
  have HC := Lib.hid (closure_any hSo hg hU F qs w A n c rs most hS hE h1 h2 hR hn hl hs hrU)
  clear hg hU hS hE h1 h2 hR hn hl hs hrU
  generalize closR G U rs most = R at *
  unfold fnV at *
  go_enter Tryz.func20, Tryz.ntmps20
  go_wp2_with fail
  refine HC.out.mono ?_
  rintro e w1 ⟨F', qs', hs, _, hc, hf, ha⟩
  cases R with
  | error x =>
    obtain rfl := ha
    have HF := Lib.hid (And.intro hs (And.intro hc hf))
    clear hs hc hf
    go_wp2
    go_ret
    exact ⟨⟨F', qs', HF.out.1, HF.out.2.1, HF.out.2.2⟩, rfl⟩
  | ok m =>
    obtain ⟨A2, rfl, _⟩ := ha
    have HF := Lib.hid (And.intro hs (And.intro hc hf))
    clear hs hc hf
    go_wp2
    go_ret
    exact ⟨⟨F', qs', HF.out.1, HF.out.2.1, HF.out.2.2⟩, rfl⟩
/-- The fixed history. -/
def awR : List Kn := [⟨2, [], et_d⟩, ⟨1, ec_b, ec_d⟩]
theorem aw_one : addK [] 2 [] = [⟨2, [], et_d⟩] := by
  unfold addK
  rw [show idK 2 [] = et_d from et_id]
  rfl
theorem aw_two : addK [⟨2, [], et_d⟩] 1 ec_b = awR := by
  unfold addK
  rw [ec_id]
  have : getK [⟨2, [], et_d⟩] ec_d = none := by
    unfold getK
    rw [List.find?_eq_none]
    intro x hx
    simp at hx
    subst hx
    simp
    exact ec_ne
  rw [this]
  rfl
theorem aw_lk1 : lkOf 1 ec_b = some [⟨bk et_d, 2⟩] := by kernel_rfl
theorem aw_lk2 : lkOf 2 [] = some [] := by kernel_rfl
theorem aw_bytes : strOfNums (commitL (bk et_d) [] perW perW ⟨#[]⟩) = bk ec_b := by kernel_rfl
theorem aw_get {d : Gid} {o : Kn} (h : withoutK awR [] d = some o) : o = ⟨2, [], et_d⟩ ∨ o = ⟨1, ec_b, ec_d⟩ := by
  unfold withoutK at h
  split at h
  · cases h
  · have := List.mem_of_find?_eq_some h
    simpa [awR] using this
theorem aw_univ : Univ (withoutK awR []) [ec_d, et_d] where
  num := by simp
  sz := fun d o h => by
    rcases aw_get h with rfl | rfl
    · simp
    · show ec_b.length ≤ _; decide
  lk := fun d o ks h hk k hkm => by
    rcases aw_get h with rfl | rfl
    · rw [show lkOf 2 [] = some [] from aw_lk2] at hk
      injection hk with hk; subst hk; simp at hkm
    · rw [show lkOf 1 ec_b = _ from aw_lk1] at hk
      injection hk with hk; subst hk; simp at hkm
      subst hkm
      show (bk et_d).data.toList ∈ _
      rw [bk_list]; simp
theorem aw_clos9 : closR (withoutK awR []) [ec_d, et_d] [ec_d] 9 = .ok [⟨ec_d, 1⟩, ⟨et_d, 2⟩] := by kernel_rfl
theorem aw_clos1 : closR (withoutK awR []) [ec_d, et_d] [ec_d] 1 = .error 5 := by kernel_rfl
end Go.Proofs.YtihanglnjghcfaaGreatDoor
namespace Go.Proofs.YtihanglnjghcfaaGreatDoor
open Go.RowKit Go.Maps
set_option linter.unusedVariables false
set_option linter.unusedSimpArgs false

theorem StrsAt.one (w : World) (d : Gid) : StrsAt (w.alloc (.cells #[.string (bk d)] 9)) (some ⟨w.heap.size, 0, none⟩) ([d].map bk) := fun _ =>
  ⟨w.heap.size, 0, rfl, by simp, fun i s hi => by
    have : i = 0 := by have := (List.getElem?_eq_some_iff.1 hi).1; simp at this; exact this
    subst this
    simp at hi
    subst hi
    rw [World.cell?_alloc_at _ _ _ _ (by simp)]; rfl⟩
/-- The closure by way of the law's Get. -/
theorem clos_get (hSo : SortsS) {B r b1 b2 : Nat} {W : World} {R : List Kn} {gone : Gid} {U : List Gid} (hU : Univ (withoutK R gone) U) (hR : RepAt W (fun k => B ≤ k) r R) (hl : R.length ≤ 1073741824) (hE : EnvO W)
    (ht : 1 < B ∧ 2 < B) (hB : B ≤ W.heap.size) (h1 : B ≤ b1) (h2 : B ≤ b2) (k1 : W.cell? ⟨b1, 0, none⟩ = some (.pointer (some ⟨r, 0, none⟩))) (k2 : W.cell? ⟨b2, 0, none⟩ = some (.string (bk gone))) (hz : ∀ x ∈ R, x.b.length ≤ 268435456)
    (A : Option Addr) (n c : Nat) (rs : List Gid) (most : Int) (hS : StrsAt W A (rs.map bk)) (hn : rs.length = n) (hln : n ≤ 268435456) (hs : ∀ r ∈ rs, r.length ≤ 1099511627776) (hrU : ∀ r ∈ rs, r ∈ U) :
    Calls Tryz.prog 16 #[fnV 38 (.pointer (some ⟨b1, 0, none⟩)) (.pointer (some ⟨b2, 0, none⟩)), .slice A n c, .int .i64 most] W fun e w' =>
      RepAt w' (fun k => B ≤ k) r R ∧ Chg (fun k => B ≤ k) W w' ∧ ClosAns (closR (withoutK R gone) U rs most) W w' e := by
  have hst : GetSt r b1 b2 R gone (fun k => B ≤ k ∧ k < W.heap.size) [] W := ⟨fun k h => h.2, hR.mono fun k hk hl => ⟨hk, hl⟩, ⟨h1, block_lt k1⟩, ⟨h2, block_lt k2⟩, k1, k2⟩
  refine (closure_any hSo (getter_get r b1 b2 R gone hl (fun x hx => by have := hz x hx; omega)) hU _ [] W A n c rs most hst hE (fun h => by have := h.1; omega) (fun h => by have := h.1; omega) hS hn hln hs hrU).mono ?_
  rintro e w' ⟨F', qs', hst', _, hc, hf, ha⟩
  refine ⟨hst'.2.1.mono fun k hk _ => ?_, hc.mono fun k _ h => h.1, ha⟩
  rcases hf k hk with h | h
  · exact h.1
  · omega
theorem check_get (hSo : SortsS) {B r b1 b2 : Nat} {W : World} {R : List Kn} {gone : Gid} {U : List Gid} (hU : Univ (withoutK R gone) U) (hR : RepAt W (fun k => B ≤ k) r R) (hl : R.length ≤ 1073741824) (hE : EnvO W)
    (ht : 1 < B ∧ 2 < B) (hB : B ≤ W.heap.size) (h1 : B ≤ b1) (h2 : B ≤ b2) (k1 : W.cell? ⟨b1, 0, none⟩ = some (.pointer (some ⟨r, 0, none⟩))) (k2 : W.cell? ⟨b2, 0, none⟩ = some (.string (bk gone))) (hz : ∀ x ∈ R, x.b.length ≤ 268435456)
    (A : Option Addr) (n c : Nat) (rs : List Gid) (most : Int) (hS : StrsAt W A (rs.map bk)) (hn : rs.length = n) (hln : n ≤ 268435456) (hs : ∀ r ∈ rs, r.length ≤ 1099511627776) (hrU : ∀ r ∈ rs, r ∈ U) :
    Calls Tryz.prog 20 #[fnV 38 (.pointer (some ⟨b1, 0, none⟩)) (.pointer (some ⟨b2, 0, none⟩)), .slice A n c, .int .i64 most] W fun e w' =>
      RepAt w' (fun k => B ≤ k) r R ∧ Chg (fun k => B ≤ k) W w' ∧ e = .returned (.int .i64 (match closR (withoutK R gone) U rs most with | .error x => x | .ok _ => 0)) := by
  have hst : GetSt r b1 b2 R gone (fun k => B ≤ k ∧ k < W.heap.size) [] W := ⟨fun k h => h.2, hR.mono fun k hk hl => ⟨hk, hl⟩, ⟨h1, block_lt k1⟩, ⟨h2, block_lt k2⟩, k1, k2⟩
  refine (check_any hSo (getter_get r b1 b2 R gone hl (fun x hx => by have := hz x hx; omega)) hU _ [] W A n c rs most hst hE (fun h => by have := h.1; omega) (fun h => by have := h.1; omega) hS hn hln hs hrU).mono ?_
  rintro e w' ⟨⟨F', qs', hst', hc, hf⟩, ha⟩
  refine ⟨hst'.2.1.mono fun k hk _ => ?_, hc.mono fun k _ h => h.1, ha⟩
  rcases hf k hk with h | h
  · exact h.1
  · omega
set_option maxRecDepth 100000 in
set_option maxHeartbeats 4000000 in
theorem awake_any (hSo : SortsS) (w : World) (hE : EnvO w) : Calls Tryz.prog 11 #[] w fun e w' => e = .returned (.bool true) ∧ Below w.heap.size w w' := by
  have HSO := Lib.hid hSo
  have HE := Lib.hid hE
  have HLT := Lib.hid hE.lt
  have hR0 := RepAt.new w ⟨#[]⟩
  have hB0 : Below w.heap.size w (w.alloc (.cells #[.slice none 0 0, .slice none 0 0, .string ⟨#[]⟩, .bool false] 47)) := (Below.refl _ _).alloc (Nat.le_refl _) _
  clear hSo hE
  go_enter Tryz.func11, Tryz.ntmps11
  go_upto_region 2 with (fail)
  generalize w.alloc (.cells #[.slice none 0 0, .slice none 0 0, .string ⟨#[]⟩, .bool false] 47) = w1 at *
  have HR0 := Lib.hid hR0
  have HB0 := Lib.hid hB0
  clear hR0 hB0
  have HA1 := radd_any (fun k => w.heap.size ≤ k) w.heap.size [] 2 [] w1 HR0.out (fun k hk => by have := HB0.out.size; omega) (by simp) (by simp)
  have HA1 := Lib.hid HA1
  unfold AddK at HA1
  rw [aw_one, show idK 2 [] = et_d from et_id, show bk [] = ⟨#[]⟩ from rfl] at HA1
  go_wp2_with fail
  refine HA1.out.mono ?_
  rintro e w2 ⟨rfl, hr2, hc2⟩
  have HR2 := Lib.hid hr2
  have HB2 := Lib.hid (HB0.out.trans (hc2.below HB0.out.size (fun k hk h => by have h2 : w.heap.size ≤ k := h; omega)))
  clear hr2 hc2 HA1
  have HREF := Lib.hid (refCommit_any ⟨#[]⟩ (.slice none 0 0) (bk et_d) none 0 0 [] perW perW ⟨#[]⟩ ⟨#[]⟩ 0 ⟨#[]⟩ ⟨#[]⟩ w2 StrsAt.nil rfl (by decide) (by decide +kernel))
  rw [aw_bytes] at HREF
  unfold perW at HREF
  go_wp2_with fail
  refine HREF.out.mono ?_
  rintro e w3 ⟨rfl, hb3⟩
  have HB3 := Lib.hid (HB2.out.trans (hb3.mono HB2.out.size))
  have HA2 := radd_any (fun k => w.heap.size ≤ k) w.heap.size [⟨2, [], et_d⟩] 1 ec_b w3 (HR2.out.below hb3) (fun k hk => by have := HB3.out.size; omega) (by simp) (by decide)
  have HA2 := Lib.hid HA2
  unfold AddK at HA2
  rw [aw_two, ec_id] at HA2
  clear hb3 HREF
  go_wp2_with fail
  refine HA2.out.mono ?_
  rintro e w4 ⟨rfl, hr4, hc4⟩
  have HR4 := Lib.hid hr4
  have HB4 := Lib.hid (HB3.out.trans (hc4.below HB3.out.size (fun k hk h => by have h2 : w.heap.size ≤ k := h; omega)))
  clear hr4 hc4 HA2
  have HEB : Hid (∀ W, Below w.heap.size w W → EnvO W) := Lib.hid (fun W hb => HE.out.below hb)
  have HZ : Hid (∀ x ∈ awR, x.b.length ≤ 268435456) := Lib.hid (by
    intro x hx
    simp [awR] at hx
    rcases hx with rfl | rfl
    · simp
    · show ec_b.length ≤ _; decide)
  have HGT := Lib.hid (fun W => get_any W w.heap.size [])
  rw [show bk [] = ⟨#[]⟩ from rfl] at HGT
  have HCL : Hid (∀ (W W1 : World) (b1 b2 : Nat) (most : Int), Below w.heap.size w W → RepAt W (fun k => w.heap.size ≤ k) w.heap.size awR → Below W.heap.size W W1 → b1 = W.heap.size → b2 = W.heap.size + 1 → W1.cell? ⟨b1, 0, none⟩ = some (.pointer (some ⟨w.heap.size, 0, none⟩)) → W1.cell? ⟨b2, 0, none⟩ = some (.string ⟨#[]⟩) →
      Calls Tryz.prog 16 #[.func (.func 38) #[] #[.pointer (some ⟨b1, 0, none⟩), .pointer (some ⟨b2, 0, none⟩)], .slice (some ⟨W1.heap.size, 0, none⟩) 1 1, .int .i64 most] (W1.alloc (.cells #[.string (bk ec_d)] 9)) fun e w' =>
        RepAt w' (fun k => w.heap.size ≤ k) w.heap.size awR ∧ Below w.heap.size w w' ∧ ClosAns (closR (withoutK awR []) [ec_d, et_d] [ec_d] most) (W1.alloc (.cells #[.string (bk ec_d)] 9)) w' e) := Lib.hid (fun W W1 b1 b2 most hb hR hb1 e1 e2 k1 k2 => by
    have hs := hb.size
    have hal : Below W1.heap.size W1 (W1.alloc (.cells #[.string (bk ec_d)] 9)) := (Below.refl _ _).alloc (Nat.le_refl _) _
    have hbW1 : Below w.heap.size w W1 := hb.trans (hb1.mono hs)
    have hbA : Below w.heap.size w (W1.alloc (.cells #[.string (bk ec_d)] 9)) := hbW1.trans (hal.mono hbW1.size)
    refine (clos_get HSO.out (B := w.heap.size) (b1 := b1) (b2 := b2) aw_univ ((hR.below hb1).below hal) (by decide) (HEB.out _ hbA) HLT.out hbA.size (by omega) (by omega) ((hal.cell (block_lt k1)).trans k1) ((hal.cell (block_lt k2)).trans k2) HZ.out _ 1 1 [ec_d] most (StrsAt.one W1 ec_d) rfl (by decide) (by intro q hq; simp at hq; subst hq; decide) (by simp)).mono ?_
    rintro e w' ⟨hR', hc', ha⟩
    exact ⟨hR', hbA.trans (hc'.below hbA.size (fun k hk h => by omega)), ha⟩)
  have HCH : Hid (∀ (W W1 : World) (b1 b2 : Nat) (most : Int), Below w.heap.size w W → RepAt W (fun k => w.heap.size ≤ k) w.heap.size awR → Below W.heap.size W W1 → b1 = W.heap.size → b2 = W.heap.size + 1 → W1.cell? ⟨b1, 0, none⟩ = some (.pointer (some ⟨w.heap.size, 0, none⟩)) → W1.cell? ⟨b2, 0, none⟩ = some (.string ⟨#[]⟩) →
      Calls Tryz.prog 20 #[.func (.func 38) #[] #[.pointer (some ⟨b1, 0, none⟩), .pointer (some ⟨b2, 0, none⟩)], .slice (some ⟨W1.heap.size, 0, none⟩) 1 1, .int .i64 most] (W1.alloc (.cells #[.string (bk ec_d)] 9)) fun e w' =>
        Below w.heap.size w w' ∧ e = .returned (.int .i64 (match closR (withoutK awR []) [ec_d, et_d] [ec_d] most with | .error x => x | .ok _ => 0))) := Lib.hid (fun W W1 b1 b2 most hb hR hb1 e1 e2 k1 k2 => by
    have hs := hb.size
    have hal : Below W1.heap.size W1 (W1.alloc (.cells #[.string (bk ec_d)] 9)) := (Below.refl _ _).alloc (Nat.le_refl _) _
    have hbW1 : Below w.heap.size w W1 := hb.trans (hb1.mono hs)
    have hbA : Below w.heap.size w (W1.alloc (.cells #[.string (bk ec_d)] 9)) := hbW1.trans (hal.mono hbW1.size)
    refine (check_get HSO.out (B := w.heap.size) (b1 := b1) (b2 := b2) aw_univ ((hR.below hb1).below hal) (by decide) (HEB.out _ hbA) HLT.out hbA.size (by omega) (by omega) ((hal.cell (block_lt k1)).trans k1) ((hal.cell (block_lt k2)).trans k2) HZ.out _ 1 1 [ec_d] most (StrsAt.one W1 ec_d) rfl (by decide) (by intro q hq; simp at hq; subst hq; decide) (by simp)).mono ?_
    rintro e w' ⟨hR', hc', ha⟩
    exact ⟨hbA.trans (hc'.below hbA.size (fun k hk h => by omega)), ha⟩)
  unfold fnV at HGT
  have H9 := HCL.out
  go_wp2_with fail
  refine (HGT.out w4).mono ?_
  rintro e w5 ⟨rfl, hb5, k51, k52⟩
  have HCL5 := Lib.hid (HCL.out w4 w5 w4.heap.size (w4.heap.size + 1) 9 HB4.out HR4.out hb5 rfl rfl k51 k52)
  rw [aw_clos9] at HCL5
  clear hb5 k51 k52 H9
  go_wp2_with fail
  refine HCL5.out.mono ?_
  rintro e w6 ⟨hr6, hb6, A6, rfl, _⟩
  have HR6 := Lib.hid hr6
  have HB6 := Lib.hid hb6
  clear hr6 hb6 HCL5
  go_wp2_with fail
  refine (HGT.out w6).mono ?_
  rintro e w7 ⟨rfl, hb7, k71, k72⟩
  have HCL7 := Lib.hid (HCL.out w6 w7 w6.heap.size (w6.heap.size + 1) 1 HB6.out HR6.out hb7 rfl rfl k71 k72)
  rw [aw_clos1] at HCL7
  clear hb7 k71 k72
  go_wp2_with fail
  refine HCL7.out.mono ?_
  rintro e w8 ⟨hr8, hb8, rfl⟩
  have HR8 := Lib.hid hr8
  have HB8 := Lib.hid hb8
  clear hr8 hb8 HCL7
  go_wp2_with fail
  refine (HGT.out w8).mono ?_
  rintro e w9 ⟨rfl, hb9, k91, k92⟩
  have HCL9 := Lib.hid (HCH.out w8 w9 w8.heap.size (w8.heap.size + 1) 9 HB8.out HR8.out hb9 rfl rfl k91 k92)
  rw [aw_clos9] at HCL9
  clear hb9 k91 k92
  go_wp2_with fail
  refine HCL9.out.mono ?_
  rintro e w10 ⟨hb10, rfl⟩
  have HB10 := Lib.hid hb10
  clear hb10 HCL9
  go_wp2
  go_ret
  exact ⟨rfl, HB10.out⟩
end Go.Proofs.YtihanglnjghcfaaGreatDoor
namespace Go.Proofs.YtihanglnjghcfaaGreatDoor
open Go.RowKit Go.Maps
set_option linter.unusedVariables false
set_option linter.unusedSimpArgs false

def AncPost (St : (Nat → Prop) → List Gid → World → Prop) (F : Nat → Prop) (qs : List Gid) (R : Except Int Bool) (w : World) (e : Ending) (w' : World) : Prop :=
  ∃ F' qs', St F' (qs ++ qs') w' ∧ Chg F w w' ∧ (∀ k, F' k → F k ∨ w.heap.size ≤ k) ∧ e = .returned (ancV R)
/-- What the walk keeps from round to round. -/
structure AncI (St : (Nat → Prop) → List Gid → World → Prop) (F : Nat → Prop) (qs U : List Gid) (G : Gid → Option Kn) (a b : Gid) (most : Int) (get : Value) (w : World) (g i : Nat) (l : List Git) (F1 : Nat → Prop) (wr : World) : Prop where
  st : ∃ t, St F1 (qs ++ t) wr
  sub : ∀ k, F1 k → F k ∨ w.heap.size ≤ k
  chg : Chg F w wr
  at' : WalkAt wr (KOf w.heap.size F1) g get false l
  eq : ancR G U most a b = ancP (gobG G) most a (U.length + 1 - i) i (l.map (·.id))
  one : OneG l
  inU : SubU U l
set_option maxRecDepth 100000 in
set_option maxHeartbeats 4000000 in
theorem ancestor_any {f : FuncId} {c1 c2 : Value} {G : Gid → Option Kn} {St : (Nat → Prop) → List Gid → World → Prop} (hg : Getter f c1 c2 G St) {U : List Gid} (hU : Univ G U) (F : Nat → Prop) (qs : List Gid) (w : World) (a b : Gid) (most : Int)
    (hS : St F qs w) (hE : EnvO w) (h1 : ¬ F 1) (h2 : ¬ F 2) (hb : b ∈ U) (hal : a.length ≤ 1099511627776) (hbl : b.length ≤ 1099511627776) :
    Calls Tryz.prog 23 #[fnV f c1 c2, .string (bk a), .string (bk b), .int .i64 most] w (AncPost St F qs (ancR G U most a b) w) := by
  have hbA : Below w.heap.size w (w.alloc (.cells #[.string (bk b)] 9)) := (Below.refl _ _).alloc (Nat.le_refl _) _
  have HBE := Lib.hid (begin_any f c1 c2 (some ⟨w.heap.size, 0, none⟩) 1 1 [b] (w.alloc (.cells #[.string (bk b)] 9)) (StrsAt.one w b) rfl (by decide) (by intro q hq; simp at hq; subst hq; exact hbl))
  have HBA := Lib.hid hbA
  have HG := Lib.hid hg
  have HU := Lib.hid hU
  have HE := Lib.hid hE
  have HT := Lib.hid (And.intro hE.lt.1 (And.intro hE.lt.2 (And.intro h1 h2)))
  have HS0 := Lib.hid hS
  have HLO := Lib.hid (hg.low hS)
  have HBU := Lib.hid hb
  have hsa : (bk a).size ≤ 9223372036854775807 := by rw [bk_size]; omega
  have HSA := Lib.hid hsa
  clear hg hU hS hE h1 h2 hb hbA hal hbl hsa
  unfold fnV at *
  go_enter Tryz.func23, Tryz.ntmps23
  go_wp2_with fail
  refine HBE.out.mono ?_
  rintro e w1 ⟨hb1, g, rfl, hw1⟩
  have HI0 : Hid (AncI St F qs U G a b most (.func (.func f) #[] #[c1, c2]) w g 0 [⟨b, 0⟩] F w1) := Lib.hid (by
    have hb2 := HBA.out.trans (hb1.mono HBA.out.size)
    exact {
      st := ⟨[], by simpa using HG.out.keep HS0.out (Chg.of_below (S := fun k => w.heap.size ≤ k) hb2) (fun k hk => Nat.not_le.2 (HLO.out k hk))⟩
      sub := fun k hk => .inl hk
      chg := Chg.of_below hb2
      at' := hw1.keep (Chg.refl (fun _ => False) _) (fun _ _ _ h => h) (fun k hk _ => ⟨by have := HBA.out.size; omega, fun h => by have := HLO.out k h; have := HBA.out.size; omega⟩)
      eq := rfl
      one := rootsP_one [b] [] List.Pairwise.nil
      inU := rootsP_sub [b] [] (fun x hx => by simp at hx) (fun r hr => by simp at hr; subst hr; exact HBU.out) })
  clear hb1 hw1
  go_wp2
  go_loopw [11] (fun vn wr => ∃ (i : Nat) (l : List Git) (F1 : Nat → Prop), vn = .int .i64 i ∧ AncI St F qs U G a b most (.func (.func f) #[] #[c1, c2]) w g i l F1 wr) (fun vn _ => U.length - (intOf vn).toNat)
  case atStart => exact ⟨0, _, _, rfl, HI0.out⟩
  case round =>
    obtain ⟨i, l, F1, rfl, hI⟩ := hrel
    have HI := Lib.hid hI
    obtain ⟨_, A2, c2', m, n2, hce, how, hoK, hmp, _⟩ := hI.at'
    have k1 : wr.cell? ⟨g, 1, none⟩ = some (.slice A2 l.length c2') := hce.cell 1 (by decide)
    have k2 : wr.cell? ⟨g, 2, none⟩ = some (.map (some m)) := hce.cell 2 (by decide)
    have hlk := hmp.look (bk a) HSA.out
    rw [bk_list] at hlk
    have hlu := sub_len hI.one hI.inU
    have HLU := Lib.hid (And.intro hlu HU.out.num)
    have HOW := Lib.hid how
    clear hI hce hlu how hoK hmp
    generalize wr = w2 at *
    by_cases hlt : i < l.length
    · have d1 : decide ((i : Int) < (l.length : Int)) = true := decide_eq_true (by omega)
      have d1' : decide (i < l.length) = true := decide_eq_true hlt
      have HLT := Lib.hid hlt
      have hUi : U.length + 1 - i = (U.length - i) + 1 := by have := HLU.out.1; omega
      have HUI := Lib.hid hUi
      have hml : i < (l.map (·.id)).length := by rw [List.length_map]; exact hlt
      have HML := Lib.hid hml
      clear hUi hml
      cases hat : atG l a with
      | some p =>
        rw [hat] at hlk
        unfold optI at hlk
        have HRES : Hid (ancR G U most a b = .ok true) := Lib.hid (by rw [HI.out.eq, HUI.out]; exact ancP_in HML.out (atG_mem.1 (by rw [hat]; rfl)))
        clear hat hlt
        go_wp2
        go_ret2
        rw [HRES.out]
        obtain ⟨t, ht⟩ := HI.out.st
        exact ⟨F1, t, ht, HI.out.chg, HI.out.sub, rfl⟩
      | none =>
        rw [hat] at hlk
        unfold optI at hlk
        have HNA : Hid (a ∉ l.map (·.id)) := Lib.hid (fun h => by have := atG_mem.2 h; rw [hat] at this; cases this)
        obtain ⟨M, hM⟩ : ∃ M, max most 0 = M := ⟨_, rfl⟩
        have HM : Hid (max most 0 = M) := Lib.hid hM
        clear hat
        by_cases hb : M ≤ (i : Int)
        · have d2 : decide (M ≤ (i : Int)) = true := decide_eq_true hb
          have HRES : Hid (ancR G U most a b = .error 5) := Lib.hid (by rw [HI.out.eq, HUI.out]; exact ancP_big HML.out HNA.out (by rw [HM.out]; exact hb))
          clear hb hlt
          go_wp2
          go_ret2
          rw [HRES.out]
          obtain ⟨t, ht⟩ := HI.out.st
          exact ⟨F1, t, ht, HI.out.chg, HI.out.sub, rfl⟩
        · have d2 : decide (M ≤ (i : Int)) = false := decide_eq_false hb
          have HNB : Hid (¬ max most 0 ≤ (i : Int)) := Lib.hid (by rw [HM.out]; exact hb)
          obtain ⟨x, hx⟩ : ∃ x, l[i]? = some x := ⟨_, List.getElem?_eq_getElem hlt⟩
          have HX : Hid ((l.map (·.id))[i]? = some x.id) := Lib.hid (by rw [List.getElem?_map, hx]; rfl)
          obtain ⟨b2, o2, rfl, _, hbl2, hcl2⟩ := OwnS.flat itV_len (by decide) HOW.out hx
          have f0 : w2.cell? ⟨b2, o2 + i * 2, none⟩ = some (.string (bk x.id)) := hcl2 0 (by decide)
          obtain ⟨t0, ht0⟩ := HI.out.st
          have HST0 := Lib.hid ht0
          have HA := Lib.hid (ask_any HG.out F1 (qs ++ t0) w2 x.id ht0 (HE.out.chg HI.out.chg HT.out.2.2.1 HT.out.2.2.2) (fun h => by rcases HI.out.sub _ h with h | h; exact HT.out.2.2.1 h; have := HT.out.1; omega) (fun h => by rcases HI.out.sub _ h with h | h; exact HT.out.2.2.2 h; have := HT.out.2.1; omega) (fun o ho => by have := HU.out.sz _ o ho; omega))
          have hle : ¬ (l.length : Int) ≤ i := by omega
          have hn0 : (0 : Int) ≤ i := by omega
          have hnl : (i : Int) < l.length := by omega
          have hw1 : IntKind.i64.wrap ((i : Int) + 1) = (i : Int) + 1 := IntWalk.i64_in _ (by have := HLU.out; omega)
          clear hx hbl2 hcl2 ht0 hb hlt
          unfold fnV at HA
          go_wp2_with fail
          refine HA.out.mono ?_
          rintro e w3 ⟨F2, hs2, hc2, hf2, ha2⟩
          have HC2 : Hid (Chg F w w3) := Lib.hid (HI.out.chg.trans hc2 (fun k hk h => by
            rcases HI.out.sub k h with h | h
            · exact h
            · omega))
          have HF2 : Hid (∀ k, F2 k → F k ∨ w.heap.size ≤ k) := Lib.hid (fun k hk => by
            rcases hf2 k hk with h | h
            · exact HI.out.sub k h
            · have := HI.out.chg.size; exact .inr (by omega))
          have HS2 := Lib.hid hs2
          have HW3 : Hid (WalkAt w3 (fun k => k < w2.heap.size ∧ KOf w.heap.size F2 k) g (.func (.func f) #[] #[c1, c2]) false l) := Lib.hid (HI.out.at'.keep hc2 (fun k hk _ => hk.2) (fun k hk hl => ⟨hl, hk.1, fun hf1 => (hf2 k hf1).elim hk.2 (fun h => by omega)⟩))
          have HSZ : Hid (w.heap.size ≤ w2.heap.size ∧ w2.heap.size ≤ w3.heap.size) := Lib.hid ⟨HI.out.chg.size, hc2.size⟩
          clear hs2 hc2 hf2 f0 k1 k2 hlk
          cases hgd : G x.id with
          | none =>
            rw [hgd] at ha2
            obtain rfl := ha2
            have HRES : Hid (ancR G U most a b = .error 61) := Lib.hid (by rw [HI.out.eq, HUI.out]; exact ancP_none HX.out HNA.out (by have := HNB.out; omega) (by unfold gobG; rw [hgd]; rfl))
            clear hgd
            go_wp2
            go_ret2
            rw [HRES.out]
            exact ⟨F2, _, by rw [← List.append_assoc]; exact HS2.out, HC2.out, HF2.out, rfl⟩
          | some o =>
            have HGD : Hid (gobG G x.id = some (gobK o)) := Lib.hid (by unfold gobG; rw [hgd]; rfl)
            have HGX := Lib.hid hgd
            rw [hgd] at ha2
            rcases ha2 with ⟨hlk0, rfl⟩ | ⟨IF, B1, rfl, hB1, hFB, hlk0, ho⟩
            · have HRES : Hid (ancR G U most a b = .error 3) := Lib.hid (by rw [HI.out.eq, HUI.out]; exact ancP_bad HX.out HNA.out (by have := HNB.out; omega) HGD.out (paOf_none hlk0))
              clear hgd hlk0
              go_wp2
              go_ret2
              rw [HRES.out]
              exact ⟨F2, _, by rw [← List.append_assoc]; exact HS2.out, HC2.out, HF2.out, rfl⟩
            · by_cases hk1 : o.kd = 1
              · obtain ⟨r, A3, hr, rfl, ho3⟩ : ∃ r A, commitF o.b = some r ∧ IF = .iface 103 (.agg #[.string (bk r.t), .slice A r.P.length r.P.length, .string (bk r.a), .string (bk r.c), .string (bk r.m)]) ∧ OwnS w3 B1 9 1 (.slice A r.P.length r.P.length) r.P.length (strVs r.P) := by
                  rcases ho with ⟨_, r, A, h1, h2, h3⟩ | ⟨h, _⟩ | ⟨h, _⟩ | ⟨h, _⟩
                  · exact ⟨r, A, h1, h2, h3⟩
                  · omega
                  · omega
                  · omega
                have hpa : paOf o.kd o.b = some r.P := by unfold paOf; rw [if_pos hk1, hr]; rfl
                have HRES : Hid (ancR G U most a b = ancP (gobG G) most a (U.length - i) (i + 1) (parG (l.map (·.id)) r.P)) := Lib.hid (by rw [HI.out.eq, HUI.out]; exact ancP_step HX.out HNA.out (by have := HNB.out; omega) HGD.out hpa)
                have HPU := Lib.hid (HU.out.pa HGX.out hpa)
                have HPN : Hid (r.P.length ≤ 268435456 ∧ ∀ p ∈ r.P, p.length ≤ 1099511627776) := Lib.hid ⟨by have := pa_num hpa; have := HU.out.sz _ _ HGX.out; omega, fun p hp => by have := pa_each hpa p hp; have := HU.out.sz _ _ HGX.out; omega⟩
                have hta := tc_com (.string (bk r.t)) (.slice A3 r.P.length r.P.length) (.string (bk r.a)) (.string (bk r.c)) (.string (bk r.m)) w3
                have z1 : (w3.alloc (.cells #[.string (bk r.t), .slice A3 r.P.length r.P.length, .string (bk r.a), .string (bk r.c), .string (bk r.m)] 103)).cell? ⟨w3.heap.size, 1, none⟩ = some (.slice A3 r.P.length r.P.length) := by rw [World.cell?_alloc_at _ _ _ _ (by simp)]; rfl
                have hbC : Below w3.heap.size w3 (w3.alloc (.cells #[.string (bk r.t), .slice A3 r.P.length r.P.length, .string (bk r.a), .string (bk r.c), .string (bk r.m)] 103)) := (Below.refl _ _).alloc (Nat.le_refl _) _
                have hsC : w3.heap.size < (w3.alloc (.cells #[.string (bk r.t), .slice A3 r.P.length r.P.length, .string (bk r.a), .string (bk r.c), .string (bk r.m)] 103)).heap.size := by simp
                have HB1 := Lib.hid (And.intro hB1 hFB)
                have HO3 := Lib.hid ho3
                have HBC := Lib.hid (And.intro hbC hsC)
                clear hgd hlk0 ho hk1 hr hpa hB1 hFB ho3 hbC hsC
                go_upto_region 16 with (fail)
                generalize w3.alloc (.cells #[.string (bk r.t), .slice A3 r.P.length r.P.length, .string (bk r.a), .string (bk r.c), .string (bk r.m)] 103) = w4 at *
                go_wp2
                go_loopw [73] (fun vn wr => ∃ (j : Nat) (l' : List Git), vn = .int .i64 j ∧ j ≤ r.P.length ∧ WalkAt wr (fun k => (k < w2.heap.size ∧ KOf w.heap.size F2 k) ∨ w4.heap.size ≤ k) g (.func (.func f) #[] #[c1, c2]) false l' ∧ Chg (fun k => (k < w2.heap.size ∧ KOf w.heap.size F2 k) ∨ w4.heap.size ≤ k) w4 wr ∧ parsW l r.P = parsW l' (r.P.drop j) ∧ l'.length ≤ l.length + j) (fun vn _ => r.P.length - (intOf vn).toNat)
                case atStart => exact ⟨0, l, rfl, Nat.zero_le _, HW3.out.keep (Chg.of_below (S := fun k => w3.heap.size ≤ k) HBC.out.1) (fun k _ h1 h2 => by omega) (fun k hk _ => .inl hk), Chg.refl _ _, by rw [List.drop_zero], Nat.le_refl _⟩
                case round =>
                  obtain ⟨j, l', rfl, hj, hw', hcr, hlk', hln'⟩ := hrel
                  have HWR := Lib.hid hw'
                  have HCR := Lib.hid hcr
                  have HLR := Lib.hid hlk'
                  have HNR := Lib.hid hln'
                  clear hw' hcr hlk' hln'
                  by_cases hlt : j < r.P.length
                  · have e1 : decide ((j : Int) < (r.P.length : Int)) = true := decide_eq_true (by omega)
                    have e1' : decide (j < r.P.length) = true := decide_eq_true hlt
                    have hor := (HO3.out.chg (Chg.of_below (S := fun k => w3.heap.size ≤ k) HBC.out.1) (fun k hk h => by have := (HO3.out.lt k hk).2; omega)).chg HCR.out (fun k hk h => by
                      have h1 := HO3.out.lt k hk
                      have h2 := HB1.out.1
                      have h3 := HBC.out.2
                      rcases h with h | h
                      · have := h.1; omega
                      · omega)
                    obtain ⟨kb, ko, rfl, hkb, hkc⟩ := hor.strsAt (by rw [List.length_map]; omega)
                    generalize hyy : r.P[j] = y at *
                    have f1 : wr.cell? ⟨kb, ko + j, none⟩ = some (.string (bk y)) := hkc j (bk y) (by rw [List.getElem?_map, List.getElem?_eq_getElem hlt, hyy]; rfl)
                    have HDR : Hid (r.P.drop j = y :: r.P.drop (j + 1)) := Lib.hid (by rw [List.drop_eq_getElem_cons hlt, hyy])
                    have hle2 : ¬ (r.P.length : Int) ≤ j := by omega
                    have hj0 : (0 : Int) ≤ j := by omega
                    have hjl : (j : Int) < r.P.length := by omega
                    have hw2 : IntKind.i64.wrap ((j : Int) + 1) = (j : Int) + 1 := IntWalk.i64_in _ (by have := HPN.out.1; omega)
                    have HADD := Lib.hid (add_any _ g _ false l' ⟨y, 0⟩ _ HWR.out (fun k hk => .inr (by have := HCR.out.size; omega)) (by have := HNR.out; have := HLU.out; have := HPN.out.1; omega) (HPN.out.2 y (by rw [← hyy]; exact List.getElem_mem hlt)))
                    dsimp only at HADD
                    clear hor hkb hkc hyy
                    go_wp2_with fail
                    refine HADD.out.mono ?_
                    rintro e w11 ⟨rfl, hwa, hca⟩
                    have HWB := Lib.hid hwa
                    have HCB := Lib.hid (HCR.out.trans hca (fun _ _ h => h))
                    have HLEN : Hid ((addG l' ⟨y, 0⟩).1.length ≤ l.length + (j + 1)) := Lib.hid (by have := addG_le l' ⟨y, 0⟩; have := HNR.out; omega)
                    have HNX : Hid (parsW l r.P = parsW (addG l' ⟨y, 0⟩).1 (r.P.drop (j + 1))) := Lib.hid (by rw [HLR.out, HDR.out]; rfl)
                    clear hwa hca f1
                    go_wp2
                    go_roundw
                    case rel => exact ⟨j + 1, _, rfl, hlt, HWB.out, HCB.out, HNX.out, HLEN.out⟩
                    case measure => simp [intOf]; omega
                  · have e1 : decide ((j : Int) < (r.P.length : Int)) = false := decide_eq_false (by omega)
                    have e1' : decide (j < r.P.length) = false := decide_eq_false hlt
                    have hNX : parsW l r.P = l' := by rw [HLR.out, List.drop_eq_nil_of_le (by omega)]; rfl
                    have HFI : Hid (AncI St F qs U G a b most (.func (.func f) #[] #[c1, c2]) w g (i + 1) l' F2 wr) := Lib.hid (by
                      have hs4 := HG.out.keep HS2.out (Chg.of_below (S := fun k => w3.heap.size ≤ k) HBC.out.1) (fun k hk => Nat.not_le.2 (HG.out.low HS2.out k hk))
                      exact {
                        st := ⟨t0 ++ [x.id], by
                          rw [← List.append_assoc]
                          refine HG.out.keep hs4 HCR.out (fun k hk h => ?_)
                          have h1 := HG.out.low HS2.out k hk
                          have h3 := HBC.out.2
                          rcases h with h | h
                          · exact h.2.2 hk
                          · omega⟩
                        sub := HF2.out
                        chg := (HC2.out.trans (Chg.of_below (S := fun _ => False) HBC.out.1) (fun _ _ h => h.elim)).trans HCR.out (fun k hk h => by
                          rcases h with h | h
                          · have := h.2.1; omega
                          · have := HSZ.out; have h3 := HBC.out.2; omega)
                        at' := HWR.out.keep (Chg.refl (fun _ => False) _) (fun _ _ _ h => h) (fun k hk _ => by
                          rcases hk with h | h
                          · exact h.2
                          · exact ⟨by have := HSZ.out; have h3 := HBC.out.2; omega, fun h2 => by have := HG.out.low HS2.out k h2; have h3 := HBC.out.2; omega⟩)
                        eq := by rw [HRES.out, ← parsW_ids, hNX, show U.length + 1 - (i + 1) = U.length - i by omega]
                        one := by rw [← hNX]; exact parsW_one _ _ HI.out.one
                        inU := by rw [← hNX]; exact parsW_sub _ _ HI.out.inU HPU.out })
                    clear hNX hlt
                    go_wp2
                    go_roundw
                    case rel => exact ⟨i + 1, l', F2, rfl, HFI.out⟩
                    case measure => have := HLU.out; have := HLT.out; simp [intOf]; omega
              · have hta := ho.noCom hk1 w3
                have HRES : Hid (ancR G U most a b = .error 3) := Lib.hid (by rw [HI.out.eq, HUI.out]; exact ancP_bad HX.out HNA.out (by have := HNB.out; omega) HGD.out (paOf_no hk1))
                have hbA : Below w3.heap.size w3 (w3.alloc (.cells #[.string ⟨#[]⟩, .slice none 0 0, .string ⟨#[]⟩, .string ⟨#[]⟩, .string ⟨#[]⟩] 103)) := (Below.refl _ _).alloc (Nat.le_refl _) _
                have HBA2 := Lib.hid hbA
                clear hgd hlk0 ho hk1 hbA
                go_wp2
                go_ret2
                rw [HRES.out]
                exact ⟨F2, _, by rw [← List.append_assoc]; exact HG.out.keep HS2.out (Chg.of_below (S := fun k => w3.heap.size ≤ k) HBA2.out) (fun k hk => Nat.not_le.2 (HG.out.low HS2.out k hk)), HC2.out.trans (Chg.of_below (S := fun _ => False) HBA2.out) (fun _ _ h => h.elim), HF2.out, rfl⟩
    · have d1 : decide ((i : Int) < (l.length : Int)) = false := decide_eq_false (by omega)
      have d1' : decide (i < l.length) = false := decide_eq_false hlt
      have HRES : Hid (ancR G U most a b = .ok false) := Lib.hid (by rw [HI.out.eq]; exact ancP_end (by rw [List.length_map]; omega))
      clear hlt
      go_wp2
      go_ret2
      rw [HRES.out]
      obtain ⟨t, ht⟩ := HI.out.st
      exact ⟨F1, t, ht, HI.out.chg, HI.out.sub, rfl⟩
end Go.Proofs.YtihanglnjghcfaaGreatDoor
namespace Go.Proofs.YtihanglnjghcfaaGreatDoor
open Go.RowKit Go.Maps
set_option linter.unusedVariables false
set_option linter.unusedSimpArgs false

set_option maxRecDepth 100000 in
set_option maxHeartbeats 2000000 in
theorem rhas_any (w : World) (A : Option Addr) (n c : Nat) (l : List Gid) (d : Gid) (h : StrsAt w A (l.map bk)) (hl : l.length = n) (hn : n ≤ 1073741824) :
    Calls Tryz.prog 28 #[.slice A n c, .string (bk d)] w fun e w' => e = .returned (.bool (decide (d ∈ l))) ∧ w' = w := by
  have HS := Lib.hid h
  have HL := Lib.hid (And.intro hl hn)
  clear h hl hn
  go_enter Tryz.func28, Tryz.ntmps28
  go_wp2
  go_loopw [5] (fun vn wr => ∃ i : Nat, vn = .int .i64 i ∧ i ≤ n ∧ wr = w ∧ ∀ j x, j < i → l[j]? = some x → x ≠ d) (fun vn _ => n - (intOf vn).toNat)
  case atStart => exact ⟨0, rfl, by omega, rfl, fun j x h => absurd h (by omega)⟩
  case round =>
    obtain ⟨i, rfl, hi, rfl, hno⟩ := hrel
    have HNO := Lib.hid hno
    clear hno
    by_cases hlt : i < n
    · have d1 : decide ((i : Int) < (n : Int)) = true := decide_eq_true (by omega)
      have d1' : decide (i < n) = true := decide_eq_true hlt
      obtain ⟨x, hx⟩ : ∃ x, l[i]? = some x := ⟨_, List.getElem?_eq_getElem (by rw [HL.out.1]; exact hlt)⟩
      obtain ⟨b, o, rfl, _, hc⟩ := HS.out (by rw [List.length_map, HL.out.1]; omega)
      have f0 := hc i (bk x) (by rw [List.getElem?_map, hx]; rfl)
      have HX := Lib.hid hx
      have hle : ¬ (n : Int) ≤ i := by omega
      have hn0 : (0 : Int) ≤ i := by omega
      have hnl : (i : Int) < n := by omega
      clear hx hc
      by_cases he : x = d
      · have q1 : ((bk x).toList == (bk d).toList) = true := by rw [he]; simp
        have HRR : Hid (decide (d ∈ l) = true) := Lib.hid (decide_eq_true (by rw [← he]; exact List.mem_of_getElem? HX.out))
        clear he
        go_wp2
        go_ret
        exact ⟨by rw [HRR.out]; rfl, by first | rfl | trivial⟩
      · have q1 : ((bk x).toList == (bk d).toList) = false := by rw [Lib.toList_data, Lib.toList_data, bk_list, bk_list, beq_eq_false_iff_ne]; exact he
        have HNX : Hid (∀ j y, j < i + 1 → l[j]? = some y → y ≠ d) := Lib.hid (fun j y hj hy => by
          rcases Nat.lt_or_ge j i with h | h
          · exact HNO.out j y h hy
          · obtain rfl : j = i := by omega
            rw [HX.out] at hy
            injection hy with hy
            rw [← hy]; exact he)
        have hw : IntKind.i64.wrap ((i : Int) + 1) = (i : Int) + 1 := IntWalk.i64_in _ (by have := HL.out; omega)
        clear he
        go_wp2
        go_roundw
        case rel => exact ⟨i + 1, rfl, hlt, by first | rfl | trivial, HNX.out⟩
        case measure => simp [intOf]; omega
    · have d1 : decide ((i : Int) < (n : Int)) = false := decide_eq_false (by omega)
      have d1' : decide (i < n) = false := decide_eq_false hlt
      have HRR : Hid (decide (d ∈ l) = false) := Lib.hid (decide_eq_false (fun h => by
        obtain ⟨j, hj, e⟩ := List.mem_iff_getElem.1 h
        exact HNO.out j l[j] (by have := HL.out.1; omega) (List.getElem?_eq_getElem hj) e))
      go_wp2
      go_ret
      exact ⟨by rw [HRR.out]; rfl, by first | rfl | trivial⟩
end Go.Proofs.YtihanglnjghcfaaGreatDoor
namespace Go.Proofs.YtihanglnjghcfaaGreatDoor
open Go.RowKit Go.Maps
set_option linter.unusedVariables false
set_option linter.unusedSimpArgs false

theorem OwnS.low {w : World} {B n : Nat} {e : TypeId} {size : Nat} {v : Value} {xs : List Value} (h : OwnS w B e size v n xs) (W : World) (hb : Below w.heap.size w W) : OwnS W B e size v n xs :=
  h.chg (S := fun _ => False) (Chg.of_below hb) fun _ _ h => h
end Go.Proofs.YtihanglnjghcfaaGreatDoor
