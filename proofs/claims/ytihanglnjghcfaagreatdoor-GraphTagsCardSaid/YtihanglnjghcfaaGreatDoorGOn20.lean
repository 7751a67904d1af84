/- The law's Make: a history out of small numbers. -/
import Derived.Test.YtihanglnjghcfaaGreatDoorGOn19
import Derived.Test.YtihanglnjghcfaaGreatDoorGOn16
import Derived.Deep.CutBlock
import Derived.Deep.DeepCutAuto
import Derived.Test.YtihanglnjghcfaaGreatDoorGOn14
namespace Go.Proofs.YtihanglnjghcfaaGreatDoor
open Go.RowKit Go.Maps
set_option linter.unusedVariables false
set_option linter.unusedSimpArgs false

theorem and65535 (n : Int) : ∃ N : Nat, bits .and .i64 n 65535 = (N : Int) ∧ N < 65536 := by
  have h127 : (BitVec.ofInt 64 65535).toNat = 2 ^ 16 - 1 := by decide
  have key : (BitVec.ofInt 64 n &&& BitVec.ofInt 64 65535).toNat = (n % ((2 ^ 64 : Nat) : Int)).toNat % 2 ^ 16 := by
    rw [BitVec.toNat_and, BitVec.toNat_ofInt, h127, Nat.and_two_pow_sub_one_eq_mod]
  refine ⟨(n % ((2 ^ 64 : Nat) : Int)).toNat % 2 ^ 16, ?_, by omega⟩
  show IntKind.i64.wrap ((BitVec.ofInt 64 n &&& BitVec.ofInt 64 65535).toNat : Nat) = _
  rw [key, IntWalk.i64_in _ (by omega)]
theorem and3 (n : Int) : ∃ N : Nat, bits .and .i64 n 3 = (N : Int) ∧ N < 4 := by
  have h127 : (BitVec.ofInt 64 3).toNat = 2 ^ 2 - 1 := by decide
  have key : (BitVec.ofInt 64 n &&& BitVec.ofInt 64 3).toNat = (n % ((2 ^ 64 : Nat) : Int)).toNat % 2 ^ 2 := by
    rw [BitVec.toNat_and, BitVec.toNat_ofInt, h127, Nat.and_two_pow_sub_one_eq_mod]
  refine ⟨(n % ((2 ^ 64 : Nat) : Int)).toNat % 2 ^ 2, ?_, by omega⟩
  show IntKind.i64.wrap ((BitVec.ofInt 64 n &&& BitVec.ofInt 64 3).toNat : Nat) = _
  rw [key, IntWalk.i64_in _ (by omega)]
/-- A made history. -/
structure MkOk (R : List Kn) : Prop where
  ids : IdR R
  one : (R.map (·.id)).Nodup
  made : ∀ x ∈ R, MadeIn R x ∧ x.b.length ≤ 2000
theorem HasK.more {R : List Kn} {k : Int} {d : Gid} (h : HasK R k d) (x : Kn) : HasK (R ++ [x]) k d := by
  obtain ⟨y, hy, h1, h2⟩ := h
  exact ⟨y, List.mem_append_left _ hy, h1, h2⟩
theorem MadeIn.more {R : List Kn} {x : Kn} (h : MadeIn R x) (z : Kn) : MadeIn (R ++ [z]) x := by
  rcases h with h | ⟨h0, u, hu, h⟩ | ⟨h0, c, N, hc, h⟩ | ⟨h0, t, P, N, ht, hP, h⟩
  · exact .inl h
  · refine .inr (.inl ⟨h0, u, hu.more z, ?_⟩)
    rcases h with h | ⟨N, t, hN, ht, h⟩
    · exact .inl h
    · exact .inr ⟨N, t, hN, ht.more z, h⟩
  · exact .inr (.inr (.inl ⟨h0, c, N, hc.more z, h⟩))
  · exact .inr (.inr (.inr ⟨h0, t, P, N, ht.more z, fun p hp => (hP p hp).more z, h⟩))
theorem getK_none {R : List Kn} {d : Gid} (h : getK R d = none) : ∀ x ∈ R, x.id ≠ d := fun x hx he => by
  unfold getK at h
  rw [List.find?_eq_none] at h
  exact h x hx (by simp [he])
theorem MkOk.step {R R' : List Kn} (h : MkOk R) (hs : MadeStep R R') : MkOk R' ∧ R'.length ≤ R.length + 1 := by
  rcases hs with rfl | ⟨x, rfl, hg, hid, hm, hb⟩
  · exact ⟨h, by omega⟩
  · refine ⟨⟨?_, ?_, ?_⟩, by simp⟩
    · intro y hy
      rcases List.mem_append.1 hy with hy | hy
      · exact h.ids y hy
      · rw [List.mem_singleton.1 hy]; exact hid
    · rw [List.map_append, List.nodup_append]
      refine ⟨h.one, by simp, fun a ha b hb => ?_⟩
      obtain ⟨y, hy, rfl⟩ := List.mem_map.1 ha
      simp at hb
      subst hb
      exact getK_none hg y hy
    · intro y hy
      rcases List.mem_append.1 hy with hy | hy
      · exact ⟨(h.made y hy).1.more x, (h.made y hy).2⟩
      · rw [List.mem_singleton.1 hy]; exact ⟨hm.more x, hb⟩
theorem MkOk.nil : MkOk [] := ⟨fun x hx => by simp at hx, List.Pairwise.nil, fun x hx => by simp at hx⟩
theorem RepAt.new (w : World) (vh : ByteArray) : RepAt (w.alloc (.cells #[.slice none 0 0, .slice none 0 0, .string vh, .bool false] 47)) (fun k => w.heap.size ≤ k) w.heap.size [] := by
  refine ⟨Nat.le_refl _, none, 0, .slice none 0 0, .string vh, false, ?_, OwnS.nil _ _ _ _, fun k hk => by simp [Value.ownBlock] at hk⟩
  exact Cel.new w _ #[.slice none 0 0, .slice none 0 0, .string vh, .bool false] _ (fun i hi => by
    have : i = 0 ∨ i = 1 ∨ i = 2 ∨ i = 3 := by simp at hi; omega
    rcases this with rfl | rfl | rfl | rfl <;> rfl)
def headW : ByteArray := ⟨#[114, 101, 102, 115, 47, 104, 101, 97, 100, 115, 47, 109, 97, 105, 110]⟩
def MakePost (w : World) (e : Ending) (w' : World) : Prop := Below w.heap.size w w' ∧ ∃ r R, e = .returned (.pointer (some ⟨r, 0, none⟩)) ∧ RepAt w' (fun k => w.heap.size ≤ k) r R ∧ MkOk R ∧ R.length ≤ 30
set_option maxRecDepth 100000 in
set_option maxHeartbeats 4000000 in
theorem make_any (A : Option Addr) (n c : Nat) (xs : List Int) (w : World) (hI : Ints .i64 w A xs) (hn : xs.length = n) (hnm : n ≤ 9223372036854775807) :
    Calls Tryz.prog 10 #[.slice A n c] w (MakePost w) := by
  have HI := Lib.hid hI
  have HN := Lib.hid hn
  have hR0 := RepAt.new w headW
  have hB0 : Below w.heap.size w (w.alloc (.cells #[.slice none 0 0, .slice none 0 0, .string headW, .bool false] 47)) := (Below.refl _ _).alloc (Nat.le_refl _) _
  unfold headW at hR0 hB0
  clear hI hn
  go_enter Tryz.func10, Tryz.ntmps10
  go_upto_region 2 with (fail)
  generalize w.alloc (.cells #[.slice none 0 0, .slice none 0 0, .string ⟨#[114, 101, 102, 115, 47, 104, 101, 97, 100, 115, 47, 109, 97, 105, 110]⟩, .bool false] 47) = w1 at *
  have HR0 := Lib.hid hR0
  have HB0 := Lib.hid hB0
  clear hR0 hB0
  generalize hr : w.heap.size = r at *
  go_wp2
  go_loopw [4] (fun vn wr => ∃ (i : Nat) (R : List Kn), vn = .int .i64 i ∧ i ≤ n ∧ i ≤ 30 ∧ RepAt wr (fun k => r ≤ k) r R ∧ MkOk R ∧ R.length ≤ i ∧ Below r w wr) (fun vn _ => 30 - (intOf vn).toNat)
  case atStart => exact ⟨0, [], rfl, by omega, by omega, HR0.out, MkOk.nil, Nat.le_refl _, HB0.out⟩
  case round =>
    obtain ⟨i, R, rfl, hin, hi30, hR, hM, hRl, hb⟩ := hrel
    have HR := Lib.hid hR
    have HM := Lib.hid hM
    have HB := Lib.hid hb
    have HL := Lib.hid hRl
    clear hR hM hb hRl
    by_cases hlt : i < n
    · have d1 : decide ((i : Int) < (n : Int)) = true := decide_eq_true (by omega)
      have d1' : decide (i < n) = true := decide_eq_true hlt
      by_cases hlt3 : i < 30
      · have d2 : decide ((i : Int) < 30) = true := decide_eq_true (by omega)
        have d2' : decide (i < 30) = true := decide_eq_true hlt3
        have hix : i < xs.length := by rw [HN.out]; exact hlt
        obtain ⟨b, o, hA, hbl, hcl⟩ := HI.out (by omega)
        have hc0 := hcl i hix
        subst hA
        generalize hxi : xs.getD i 0 = x at *
        have f0 := (HB.out.cell (p := ⟨b, o + i, none⟩) (by rw [← hr]; exact hbl)).trans hc0
        obtain ⟨N, hN, hN2⟩ := and65535 x
        obtain ⟨k, hk, hk2⟩ := and3 (N : Int)
        have hle : ¬ (n : Int) ≤ i := by omega
        have hn0 : (0 : Int) ≤ i := by omega
        have hnl : (i : Int) < n := by omega
        have hw1 : IntKind.i64.wrap ((i : Int) + 1) = (i : Int) + 1 := IntWalk.i64_in _ (by omega)
        have HAD := Lib.hid (ladd_any (fun k => r ≤ k) r R k (N / 4) wr HR.out (fun q hq => by have := HB.out.size; omega) (by have := HL.out; omega) HM.out.ids (by omega))
        clear hcl hc0 hbl hxi hix hN2 hk2
        go_wp2_with fail
        refine HAD.out.mono ?_
        rintro e w2 ⟨rfl, R', hR', hc', hst⟩
        have HM2 := Lib.hid (HM.out.step hst)
        have HR2 := Lib.hid hR'
        have HB2 := Lib.hid (HB.out.trans (hc'.below (by rw [← hr] at *; exact HB.out.size) (fun q hq h => by have h2 : r ≤ q := h; omega)))
        clear hR' hc' hst hr
        go_wp2
        go_roundw
        case rel => exact ⟨i + 1, R', rfl, hlt, hlt3, HR2.out, HM2.out.1, by have := HM2.out.2; have := HL.out; omega, HB2.out⟩
        case measure => simp [intOf]; omega
      · have d2 : decide ((i : Int) < 30) = false := decide_eq_false (by omega)
        have d2' : decide (i < 30) = false := decide_eq_false hlt3
        go_wp2
        go_ret
        exact ⟨by rw [hr]; exact HB.out, r, R, rfl, by rw [hr]; exact HR.out, HM.out, by have := HL.out; omega⟩
    · have d1 : decide ((i : Int) < (n : Int)) = false := decide_eq_false (by omega)
      have d1' : decide (i < n) = false := decide_eq_false hlt
      go_wp2
      go_ret
      exact ⟨by rw [hr]; exact HB.out, r, R, rfl, by rw [hr]; exact HR.out, HM.out, by have := HL.out; omega⟩
end Go.Proofs.YtihanglnjghcfaaGreatDoor
namespace Go.Proofs.YtihanglnjghcfaaGreatDoor
open Go.RowKit Go.Maps
set_option linter.unusedVariables false
set_option linter.unusedSimpArgs false

def CheckPost (St : (Nat → Prop) → List Gid → World → Prop) (F : Nat → Prop) (qs : List Gid) (R : Except Int (List Git)) (w : World) (e : Ending) (w' : World) : Prop :=
  (∃ F' qs', St F' (qs ++ qs') w' ∧ Chg F w w' ∧ (∀ k, F' k → F k ∨ w.heap.size ≤ k)) ∧ e = .returned (.int .i64 (match R with | .error x => x | .ok _ => 0))
set_option maxRecDepth 100000 in
theorem check_any (hSo : SortsS) {f : FuncId} {c1 c2 : Value} {G : Gid → Option Kn} {St : (Nat → Prop) → List Gid → World → Prop} (hg : Getter f c1 c2 G St) {U : List Gid} (hU : Univ G U) (F : Nat → Prop) (qs : List Gid) (w : World) (A : Option Addr) (n c : Nat) (rs : List Gid) (most : Int)
    (hS : St F qs w) (hE : EnvO w) (h1 : ¬ F 1) (h2 : ¬ F 2) (hR : StrsAt w A (rs.map bk)) (hn : rs.length = n) (hl : n ≤ 268435456) (hs : ∀ r ∈ rs, r.length ≤ 1099511627776) (hrU : ∀ r ∈ rs, r ∈ U) :
    Calls Tryz.prog 20 #[fnV f c1 c2, .slice A n c, .int .i64 most] w (CheckPost St F qs (closR G U rs most) w) := by
  have HC := Lib.hid (closure_any hSo hg hU F qs w A n c rs most hS hE h1 h2 hR hn hl hs hrU)
  clear hg hU hS hE h1 h2 hR hn hl hs hrU
  generalize closR G U rs most = R at *
  unfold fnV at *
  go_enter Tryz.func20, Tryz.ntmps20
  go_wp2_with fail
  refine HC.out.mono ?_
  rintro e w1 ⟨F', qs', hs, _, hc, hf, ha⟩
  cases R with
  | error x =>
    obtain rfl := ha
    have HF := Lib.hid (And.intro hs (And.intro hc hf))
    clear hs hc hf
    go_wp2
    go_ret
    exact ⟨⟨F', qs', HF.out.1, HF.out.2.1, HF.out.2.2⟩, rfl⟩
  | ok m =>
    obtain ⟨A2, rfl, _⟩ := ha
    have HF := Lib.hid (And.intro hs (And.intro hc hf))
    clear hs hc hf
    go_wp2
    go_ret
    exact ⟨⟨F', qs', HF.out.1, HF.out.2.1, HF.out.2.2⟩, rfl⟩
/-- The fixed history. -/
def awR : List Kn := [⟨2, [], et_d⟩, ⟨1, ec_b, ec_d⟩]
theorem aw_one : addK [] 2 [] = [⟨2, [], et_d⟩] := by
  unfold addK
  rw [show idK 2 [] = et_d from et_id]
  rfl
theorem aw_two : addK [⟨2, [], et_d⟩] 1 ec_b = awR := by
  unfold addK
  rw [ec_id]
  have : getK [⟨2, [], et_d⟩] ec_d = none := by
    unfold getK
    rw [List.find?_eq_none]
    intro x hx
    simp at hx
    subst hx
    simp
    exact ec_ne
  rw [this]
  rfl
theorem aw_lk1 : lkOf 1 ec_b = some [⟨bk et_d, 2⟩] := by kernel_rfl
theorem aw_lk2 : lkOf 2 [] = some [] := by kernel_rfl
theorem aw_bytes : strOfNums (commitL (bk et_d) [] perW perW ⟨#[]⟩) = bk ec_b := by kernel_rfl
theorem aw_get {d : Gid} {o : Kn} (h : withoutK awR [] d = some o) : o = ⟨2, [], et_d⟩ ∨ o = ⟨1, ec_b, ec_d⟩ := by
  unfold withoutK at h
  split at h
  · cases h
  · have := List.mem_of_find?_eq_some h
    simpa [awR] using this
theorem aw_univ : Univ (withoutK awR []) [ec_d, et_d] where
  num := by simp
  sz := fun d o h => by
    rcases aw_get h with rfl | rfl
    · simp
    · show ec_b.length ≤ _; decide
  lk := fun d o ks h hk k hkm => by
    rcases aw_get h with rfl | rfl
    · rw [show lkOf 2 [] = some [] from aw_lk2] at hk
      injection hk with hk; subst hk; simp at hkm
    · rw [show lkOf 1 ec_b = _ from aw_lk1] at hk
      injection hk with hk; subst hk; simp at hkm
      subst hkm
      show (bk et_d).data.toList ∈ _
      rw [bk_list]; simp
theorem aw_clos9 : closR (withoutK awR []) [ec_d, et_d] [ec_d] 9 = .ok [⟨ec_d, 1⟩, ⟨et_d, 2⟩] := by kernel_rfl
theorem aw_clos1 : closR (withoutK awR []) [ec_d, et_d] [ec_d] 1 = .error 5 := by kernel_rfl
end Go.Proofs.YtihanglnjghcfaaGreatDoor
namespace Go.Proofs.YtihanglnjghcfaaGreatDoor
open Go.RowKit Go.Maps
set_option linter.unusedVariables false
set_option linter.unusedSimpArgs false

theorem StrsAt.one (w : World) (d : Gid) : StrsAt (w.alloc (.cells #[.string (bk d)] 9)) (some ⟨w.heap.size, 0, none⟩) ([d].map bk) := fun _ =>
  ⟨w.heap.size, 0, rfl, by simp, fun i s hi => by
    have : i = 0 := by have := (List.getElem?_eq_some_iff.1 hi).1; simp at this; exact this
    subst this
    simp at hi
    subst hi
    rw [World.cell?_alloc_at _ _ _ _ (by simp)]; rfl⟩
/-- The closure by way of the law's Get. -/
theorem clos_get (hSo : SortsS) {B r b1 b2 : Nat} {W : World} {R : List Kn} {gone : Gid} {U : List Gid} (hU : Univ (withoutK R gone) U) (hR : RepAt W (fun k => B ≤ k) r R) (hl : R.length ≤ 1073741824) (hE : EnvO W)
    (ht : 1 < B ∧ 2 < B) (hB : B ≤ W.heap.size) (h1 : B ≤ b1) (h2 : B ≤ b2) (k1 : W.cell? ⟨b1, 0, none⟩ = some (.pointer (some ⟨r, 0, none⟩))) (k2 : W.cell? ⟨b2, 0, none⟩ = some (.string (bk gone))) (hz : ∀ x ∈ R, x.b.length ≤ 268435456)
    (A : Option Addr) (n c : Nat) (rs : List Gid) (most : Int) (hS : StrsAt W A (rs.map bk)) (hn : rs.length = n) (hln : n ≤ 268435456) (hs : ∀ r ∈ rs, r.length ≤ 1099511627776) (hrU : ∀ r ∈ rs, r ∈ U) :
    Calls Tryz.prog 16 #[fnV 38 (.pointer (some ⟨b1, 0, none⟩)) (.pointer (some ⟨b2, 0, none⟩)), .slice A n c, .int .i64 most] W fun e w' =>
      RepAt w' (fun k => B ≤ k) r R ∧ Chg (fun k => B ≤ k) W w' ∧ ClosAns (closR (withoutK R gone) U rs most) W w' e := by
  have hst : GetSt r b1 b2 R gone (fun k => B ≤ k ∧ k < W.heap.size) [] W := ⟨fun k h => h.2, hR.mono fun k hk hl => ⟨hk, hl⟩, ⟨h1, block_lt k1⟩, ⟨h2, block_lt k2⟩, k1, k2⟩
  refine (closure_any hSo (getter_get r b1 b2 R gone hl (fun x hx => by have := hz x hx; omega)) hU _ [] W A n c rs most hst hE (fun h => by have := h.1; omega) (fun h => by have := h.1; omega) hS hn hln hs hrU).mono ?_
  rintro e w' ⟨F', qs', hst', _, hc, hf, ha⟩
  refine ⟨hst'.2.1.mono fun k hk _ => ?_, hc.mono fun k _ h => h.1, ha⟩
  rcases hf k hk with h | h
  · exact h.1
  · omega
theorem check_get (hSo : SortsS) {B r b1 b2 : Nat} {W : World} {R : List Kn} {gone : Gid} {U : List Gid} (hU : Univ (withoutK R gone) U) (hR : RepAt W (fun k => B ≤ k) r R) (hl : R.length ≤ 1073741824) (hE : EnvO W)
    (ht : 1 < B ∧ 2 < B) (hB : B ≤ W.heap.size) (h1 : B ≤ b1) (h2 : B ≤ b2) (k1 : W.cell? ⟨b1, 0, none⟩ = some (.pointer (some ⟨r, 0, none⟩))) (k2 : W.cell? ⟨b2, 0, none⟩ = some (.string (bk gone))) (hz : ∀ x ∈ R, x.b.length ≤ 268435456)
    (A : Option Addr) (n c : Nat) (rs : List Gid) (most : Int) (hS : StrsAt W A (rs.map bk)) (hn : rs.length = n) (hln : n ≤ 268435456) (hs : ∀ r ∈ rs, r.length ≤ 1099511627776) (hrU : ∀ r ∈ rs, r ∈ U) :
    Calls Tryz.prog 20 #[fnV 38 (.pointer (some ⟨b1, 0, none⟩)) (.pointer (some ⟨b2, 0, none⟩)), .slice A n c, .int .i64 most] W fun e w' =>
      RepAt w' (fun k => B ≤ k) r R ∧ Chg (fun k => B ≤ k) W w' ∧ e = .returned (.int .i64 (match closR (withoutK R gone) U rs most with | .error x => x | .ok _ => 0)) := by
  have hst : GetSt r b1 b2 R gone (fun k => B ≤ k ∧ k < W.heap.size) [] W := ⟨fun k h => h.2, hR.mono fun k hk hl => ⟨hk, hl⟩, ⟨h1, block_lt k1⟩, ⟨h2, block_lt k2⟩, k1, k2⟩
  refine (check_any hSo (getter_get r b1 b2 R gone hl (fun x hx => by have := hz x hx; omega)) hU _ [] W A n c rs most hst hE (fun h => by have := h.1; omega) (fun h => by have := h.1; omega) hS hn hln hs hrU).mono ?_
  rintro e w' ⟨⟨F', qs', hst', hc, hf⟩, ha⟩
  refine ⟨hst'.2.1.mono fun k hk _ => ?_, hc.mono fun k _ h => h.1, ha⟩
  rcases hf k hk with h | h
  · exact h.1
  · omega
set_option maxRecDepth 100000 in
set_option maxHeartbeats 4000000 in
theorem awake_any (hSo : SortsS) (w : World) (hE : EnvO w) : Calls Tryz.prog 11 #[] w fun e w' => e = .returned (.bool true) ∧ Below w.heap.size w w' := by
  have HSO := Lib.hid hSo
  have HE := Lib.hid hE
  have HLT := Lib.hid hE.lt
  have hR0 := RepAt.new w ⟨#[]⟩
  have hB0 : Below w.heap.size w (w.alloc (.cells #[.slice none 0 0, .slice none 0 0, .string ⟨#[]⟩, .bool false] 47)) := (Below.refl _ _).alloc (Nat.le_refl _) _
  clear hSo hE
  go_enter Tryz.func11, Tryz.ntmps11
  go_upto_region 2 with (fail)
  generalize w.alloc (.cells #[.slice none 0 0, .slice none 0 0, .string ⟨#[]⟩, .bool false] 47) = w1 at *
  have HR0 := Lib.hid hR0
  have HB0 := Lib.hid hB0
  clear hR0 hB0
  have HA1 := radd_any (fun k => w.heap.size ≤ k) w.heap.size [] 2 [] w1 HR0.out (fun k hk => by have := HB0.out.size; omega) (by simp) (by simp)
  have HA1 := Lib.hid HA1
  unfold AddK at HA1
  rw [aw_one, show idK 2 [] = et_d from et_id, show bk [] = ⟨#[]⟩ from rfl] at HA1
  go_wp2_with fail
  refine HA1.out.mono ?_
  rintro e w2 ⟨rfl, hr2, hc2⟩
  have HR2 := Lib.hid hr2
  have HB2 := Lib.hid (HB0.out.trans (hc2.below HB0.out.size (fun k hk h => by have h2 : w.heap.size ≤ k := h; omega)))
  clear hr2 hc2 HA1
  have HREF := Lib.hid (refCommit_any ⟨#[]⟩ (.slice none 0 0) (bk et_d) none 0 0 [] perW perW ⟨#[]⟩ ⟨#[]⟩ 0 ⟨#[]⟩ ⟨#[]⟩ w2 StrsAt.nil rfl (by decide) (by decide +kernel))
  rw [aw_bytes] at HREF
  unfold perW at HREF
  go_wp2_with fail
  refine HREF.out.mono ?_
  rintro e w3 ⟨rfl, hb3⟩
  have HB3 := Lib.hid (HB2.out.trans (hb3.mono HB2.out.size))
  have HA2 := radd_any (fun k => w.heap.size ≤ k) w.heap.size [⟨2, [], et_d⟩] 1 ec_b w3 (HR2.out.below hb3) (fun k hk => by have := HB3.out.size; omega) (by simp) (by decide)
  have HA2 := Lib.hid HA2
  unfold AddK at HA2
  rw [aw_two, ec_id] at HA2
  clear hb3 HREF
  go_wp2_with fail
  refine HA2.out.mono ?_
  rintro e w4 ⟨rfl, hr4, hc4⟩
  have HR4 := Lib.hid hr4
  have HB4 := Lib.hid (HB3.out.trans (hc4.below HB3.out.size (fun k hk h => by have h2 : w.heap.size ≤ k := h; omega)))
  clear hr4 hc4 HA2
  have HEB : Hid (∀ W, Below w.heap.size w W → EnvO W) := Lib.hid (fun W hb => HE.out.below hb)
  have HZ : Hid (∀ x ∈ awR, x.b.length ≤ 268435456) := Lib.hid (by
    intro x hx
    simp [awR] at hx
    rcases hx with rfl | rfl
    · simp
    · show ec_b.length ≤ _; decide)
  have HGT := Lib.hid (fun W => get_any W w.heap.size [])
  rw [show bk [] = ⟨#[]⟩ from rfl] at HGT
  have HCL : Hid (∀ (W W1 : World) (b1 b2 : Nat) (most : Int), Below w.heap.size w W → RepAt W (fun k => w.heap.size ≤ k) w.heap.size awR → Below W.heap.size W W1 → b1 = W.heap.size → b2 = W.heap.size + 1 → W1.cell? ⟨b1, 0, none⟩ = some (.pointer (some ⟨w.heap.size, 0, none⟩)) → W1.cell? ⟨b2, 0, none⟩ = some (.string ⟨#[]⟩) →
      Calls Tryz.prog 16 #[.func (.func 38) #[] #[.pointer (some ⟨b1, 0, none⟩), .pointer (some ⟨b2, 0, none⟩)], .slice (some ⟨W1.heap.size, 0, none⟩) 1 1, .int .i64 most] (W1.alloc (.cells #[.string (bk ec_d)] 9)) fun e w' =>
        RepAt w' (fun k => w.heap.size ≤ k) w.heap.size awR ∧ Below w.heap.size w w' ∧ ClosAns (closR (withoutK awR []) [ec_d, et_d] [ec_d] most) (W1.alloc (.cells #[.string (bk ec_d)] 9)) w' e) := Lib.hid (fun W W1 b1 b2 most hb hR hb1 e1 e2 k1 k2 => by
    have hs := hb.size
    have hal : Below W1.heap.size W1 (W1.alloc (.cells #[.string (bk ec_d)] 9)) := (Below.refl _ _).alloc (Nat.le_refl _) _
    have hbW1 : Below w.heap.size w W1 := hb.trans (hb1.mono hs)
    have hbA : Below w.heap.size w (W1.alloc (.cells #[.string (bk ec_d)] 9)) := hbW1.trans (hal.mono hbW1.size)
    refine (clos_get HSO.out (B := w.heap.size) (b1 := b1) (b2 := b2) aw_univ ((hR.below hb1).below hal) (by decide) (HEB.out _ hbA) HLT.out hbA.size (by omega) (by omega) ((hal.cell (block_lt k1)).trans k1) ((hal.cell (block_lt k2)).trans k2) HZ.out _ 1 1 [ec_d] most (StrsAt.one W1 ec_d) rfl (by decide) (by intro q hq; simp at hq; subst hq; decide) (by simp)).mono ?_
    rintro e w' ⟨hR', hc', ha⟩
    exact ⟨hR', hbA.trans (hc'.below hbA.size (fun k hk h => by omega)), ha⟩)
  have HCH : Hid (∀ (W W1 : World) (b1 b2 : Nat) (most : Int), Below w.heap.size w W → RepAt W (fun k => w.heap.size ≤ k) w.heap.size awR → Below W.heap.size W W1 → b1 = W.heap.size → b2 = W.heap.size + 1 → W1.cell? ⟨b1, 0, none⟩ = some (.pointer (some ⟨w.heap.size, 0, none⟩)) → W1.cell? ⟨b2, 0, none⟩ = some (.string ⟨#[]⟩) →
      Calls Tryz.prog 20 #[.func (.func 38) #[] #[.pointer (some ⟨b1, 0, none⟩), .pointer (some ⟨b2, 0, none⟩)], .slice (some ⟨W1.heap.size, 0, none⟩) 1 1, .int .i64 most] (W1.alloc (.cells #[.string (bk ec_d)] 9)) fun e w' =>
        Below w.heap.size w w' ∧ e = .returned (.int .i64 (match closR (withoutK awR []) [ec_d, et_d] [ec_d] most with | .error x => x | .ok _ => 0))) := Lib.hid (fun W W1 b1 b2 most hb hR hb1 e1 e2 k1 k2 => by
    have hs := hb.size
    have hal : Below W1.heap.size W1 (W1.alloc (.cells #[.string (bk ec_d)] 9)) := (Below.refl _ _).alloc (Nat.le_refl _) _
    have hbW1 : Below w.heap.size w W1 := hb.trans (hb1.mono hs)
    have hbA : Below w.heap.size w (W1.alloc (.cells #[.string (bk ec_d)] 9)) := hbW1.trans (hal.mono hbW1.size)
    refine (check_get HSO.out (B := w.heap.size) (b1 := b1) (b2 := b2) aw_univ ((hR.below hb1).below hal) (by decide) (HEB.out _ hbA) HLT.out hbA.size (by omega) (by omega) ((hal.cell (block_lt k1)).trans k1) ((hal.cell (block_lt k2)).trans k2) HZ.out _ 1 1 [ec_d] most (StrsAt.one W1 ec_d) rfl (by decide) (by intro q hq; simp at hq; subst hq; decide) (by simp)).mono ?_
    rintro e w' ⟨hR', hc', ha⟩
    exact ⟨hbA.trans (hc'.below hbA.size (fun k hk h => by omega)), ha⟩)
  unfold fnV at HGT
  have H9 := HCL.out
  go_wp2_with fail
  refine (HGT.out w4).mono ?_
  rintro e w5 ⟨rfl, hb5, k51, k52⟩
  have HCL5 := Lib.hid (HCL.out w4 w5 w4.heap.size (w4.heap.size + 1) 9 HB4.out HR4.out hb5 rfl rfl k51 k52)
  rw [aw_clos9] at HCL5
  clear hb5 k51 k52 H9
  go_wp2_with fail
  refine HCL5.out.mono ?_
  rintro e w6 ⟨hr6, hb6, A6, rfl, _⟩
  have HR6 := Lib.hid hr6
  have HB6 := Lib.hid hb6
  clear hr6 hb6 HCL5
  go_wp2_with fail
  refine (HGT.out w6).mono ?_
  rintro e w7 ⟨rfl, hb7, k71, k72⟩
  have HCL7 := Lib.hid (HCL.out w6 w7 w6.heap.size (w6.heap.size + 1) 1 HB6.out HR6.out hb7 rfl rfl k71 k72)
  rw [aw_clos1] at HCL7
  clear hb7 k71 k72
  go_wp2_with fail
  refine HCL7.out.mono ?_
  rintro e w8 ⟨hr8, hb8, rfl⟩
  have HR8 := Lib.hid hr8
  have HB8 := Lib.hid hb8
  clear hr8 hb8 HCL7
  go_wp2_with fail
  refine (HGT.out w8).mono ?_
  rintro e w9 ⟨rfl, hb9, k91, k92⟩
  have HCL9 := Lib.hid (HCH.out w8 w9 w8.heap.size (w8.heap.size + 1) 9 HB8.out HR8.out hb9 rfl rfl k91 k92)
  rw [aw_clos9] at HCL9
  clear hb9 k91 k92
  go_wp2_with fail
  refine HCL9.out.mono ?_
  rintro e w10 ⟨hb10, rfl⟩
  have HB10 := Lib.hid hb10
  clear hb10 HCL9
  go_wp2
  go_ret
  exact ⟨rfl, HB10.out⟩
end Go.Proofs.YtihanglnjghcfaaGreatDoor
namespace Go.Proofs.YtihanglnjghcfaaGreatDoor
open Go.RowKit Go.Maps
set_option linter.unusedVariables false
set_option linter.unusedSimpArgs false

def noneW : Gid := [110, 111, 110, 101]
/-- The n-th of all IDs, or a text that is none. -/
def someK (R : List Kn) (n : Int) : Gid := if R.length = 0 ∨ n < 0 then noneW else (R[n.toNat % R.length]?.map (·.id)).getD []
set_option maxRecDepth 100000 in
set_option maxHeartbeats 2000000 in
theorem some_any (K : Nat → Prop) (r : Nat) (R : List Kn) (n : Int) (w : World) (h : RepAt w K r R) (hl : R.length ≤ 1048576) (hn : n ≤ 9223372036854775807) :
    Calls Tryz.prog 13 #[.pointer (some ⟨r, 0, none⟩), .int .i64 n] w fun e w' => e = .returned (.string (bk (someK R n))) ∧ Below w.heap.size w w' := by
  obtain ⟨_, A, c, _, _, _, hce, how, _⟩ := h
  have k0 : w.cell? ⟨r, 0, none⟩ = some (.slice A R.length c) := hce.cell 0 (by decide)
  by_cases hz : R.length = 0
  · have HR : Hid (someK R n = noneW) := Lib.hid (by unfold someK; rw [if_pos (.inl hz)])
    have d0 : ((R.length : Int) == 0) = true := by rw [beq_iff_eq]; omega
    have d0' : (R.length : Int) = 0 := by omega
    rw [hz] at k0 d0'
    clear hce how hz d0
    go_enter Tryz.func13, Tryz.ntmps13
    go_wp2
    go_ret
    exact ⟨by rw [HR.out]; rfl, Below.refl _ _⟩
  · have d0 : ((R.length : Int) == 0) = false := by rw [beq_eq_false_iff_ne]; omega
    have d0' : ¬ (R.length : Int) = 0 := by omega
    have d0'' : ¬ R.length = 0 := hz
    by_cases hneg : n < 0
    · have d1 : decide (n < 0) = true := decide_eq_true hneg
      have HR : Hid (someK R n = noneW) := Lib.hid (by unfold someK; rw [if_pos (.inr hneg)])
      clear hce how
      go_enter Tryz.func13, Tryz.ntmps13
      go_wp2
      go_ret
      exact ⟨by rw [HR.out]; rfl, Below.refl _ _⟩
    · have d1 : decide (n < 0) = false := decide_eq_false hneg
      have hq : n.toNat % R.length < R.length := Nat.mod_lt _ (by omega)
      have HR : Hid (someK R n = R[n.toNat % R.length].id) := Lib.hid (by unfold someK; rw [if_neg (by omega), List.getElem?_eq_getElem hq]; rfl)
      have ht : (n.tmod (R.length : Int)) = ((n.toNat % R.length : Nat) : Int) := by
        rw [Int.tmod_eq_emod_of_nonneg (by omega)]
        have : n = (n.toNat : Int) := by omega
        conv => lhs; rw [this]
        rfl
      obtain ⟨b, o, hA, _, _, hc⟩ := OwnS.flat knV_len (by decide) how (List.getElem?_eq_getElem hq)
      subst hA
      have f2 : w.cell? ⟨b, o + (n.toNat % R.length) * 3 + 2, none⟩ = some (.string (bk R[n.toNat % R.length].id)) := hc 2 (by decide)
      generalize hy : R[n.toNat % R.length] = y at *
      clear hy
      generalize n.toNat % R.length = q at *
      have hle : ¬ (R.length : Int) ≤ q := by omega
      have hn0 : (0 : Int) ≤ q := by omega
      have hnl : (q : Int) < R.length := by omega
      have hw : IntKind.i64.wrap (q : Int) = q := IntWalk.i64_in _ (by omega)
      clear hce how hc hl
      go_enter Tryz.func13, Tryz.ntmps13
      go_upto_region 3 with (fail)
      go_quiet (fail)
      go_wp2
      go_ret
      exact ⟨by rw [HR.out]; rfl, Below.drewN (Below.refl _ _) _⟩
end Go.Proofs.YtihanglnjghcfaaGreatDoor
namespace Go.Proofs.YtihanglnjghcfaaGreatDoor
open Go.RowKit Go.Maps
set_option linter.unusedVariables false
set_option linter.unusedSimpArgs false

def idsK (R : List Kn) (xs : List Int) : List Gid := (xs.take 6).map (someK R)
theorem idsK_len (R : List Kn) (xs : List Int) : (idsK R xs).length ≤ 6 := by unfold idsK; rw [List.length_map, List.length_take]; omega
def LIdsPost (L : List Gid) (w : World) (e : Ending) (w' : World) : Prop :=
  Below w.heap.size w w' ∧ ∃ A c, e = .returned (.slice A L.length c) ∧ OwnS w' w.heap.size 9 1 (.slice A L.length c) L.length (strVs L)
set_option maxRecDepth 100000 in
set_option maxHeartbeats 2000000 in
theorem lids_any (K : Nat → Prop) (r : Nat) (R : List Kn) (A : Option Addr) (n c : Nat) (xs : List Int) (w : World) (h : RepAt w K r R) (hl : R.length ≤ 1048576) (hI : Ints .i64 w A xs) (hn : xs.length = n) (hnm : n ≤ 9223372036854775807) (hx : ∀ x ∈ xs, x ≤ 9223372036854775807) :
    Calls Tryz.prog 15 #[.pointer (some ⟨r, 0, none⟩), .slice A n c] w (LIdsPost (idsK R xs) w) := by
  obtain ⟨i0, hi, hz0, hz1, hz2⟩ := info_parts info_str1
  have HI := Lib.hid hI
  have HN := Lib.hid hn
  have HX := Lib.hid hx
  have HR := Lib.hid h
  have HL := Lib.hid hl
  clear h hl hI hn hx
  go_enter Tryz.func15, Tryz.ntmps15
  go_wp2
  go_loopw [5, 6] (fun v5 v6 wr => ∃ (i : Nat) (A5 : Option Addr) (c5 : Nat), v6 = .int .i64 i ∧ v5 = .slice A5 i c5 ∧ i ≤ n ∧ i ≤ 6 ∧ OwnS wr w.heap.size 9 1 (.slice A5 i c5) i (strVs ((xs.take i).map (someK R))) ∧ Below w.heap.size w wr) (fun _ v6 _ => 6 - (intOf v6).toNat)
  case atStart => exact ⟨0, none, 0, rfl, rfl, by omega, by omega, OwnS.nil _ _ _ _, Below.refl _ _⟩
  case round =>
    obtain ⟨i, A5, c5, rfl, rfl, hin, hi6, ho, hb⟩ := hrel
    have HO := Lib.hid ho
    have HB := Lib.hid hb
    clear ho hb
    by_cases hlt : i < n
    · have d1 : decide ((i : Int) < (n : Int)) = true := decide_eq_true (by omega)
      have d1' : decide (i < n) = true := decide_eq_true hlt
      by_cases hlt6 : i < 6
      · have d2 : decide ((i : Int) < 6) = true := decide_eq_true (by omega)
        have d2' : decide (i < 6) = true := decide_eq_true hlt6
        have hix : i < xs.length := by rw [HN.out]; exact hlt
        obtain ⟨b, o, hA, hbl, hcl⟩ := HI.out (by omega)
        have hc0 := hcl i hix
        have hgd : xs.getD i 0 = xs[i] := by rw [List.getD_eq_getElem?_getD, List.getElem?_eq_getElem hix]; rfl
        rw [hgd] at hc0
        have hxb := HX.out xs[i] (List.getElem_mem hix)
        have HTK : Hid (strVs ((xs.take (i + 1)).map (someK R)) = strVs ((xs.take i).map (someK R)) ++ [.string (bk (someK R xs[i]))]) := Lib.hid (by unfold strVs; rw [List.take_add_one, List.getElem?_eq_getElem hix, List.map_append, List.map_append]; rfl)
        subst hA
        generalize xs[i] = x at *
        have f0 := (HB.out.cell (p := ⟨b, o + i, none⟩) hbl).trans hc0
        have hle : ¬ (n : Int) ≤ i := by omega
        have hn0 : (0 : Int) ≤ i := by omega
        have hnl : (i : Int) < n := by omega
        have hw1 : IntKind.i64.wrap ((i : Int) + 1) = (i : Int) + 1 := IntWalk.i64_in _ (by omega)
        have HSM := Lib.hid (some_any K r R x wr (HR.out.below HB.out) HL.out hxb)
        have hm9 : i + 1 ≤ maxLen := by unfold maxLen; omega
        have hb9 : (i + 1) * 16 ≤ 140737488355328 := by omega
        clear hcl hc0 hbl hix hgd hxb
        go_wp2_with fail
        refine HSM.out.mono ?_
        rintro e w2 ⟨rfl, hb2⟩
        have HS := Lib.hid (Src.one_new (P := Tryz.prog) (w := w2) (u := .string (bk (someK R x))) (t := 9) rfl)
        have HOA := Lib.hid ((HO.out.chg (S := fun _ => False) (Chg.of_below hb2) (fun _ _ h => h)).alloc (.cells #[.string (bk (someK R x))] 9))
        have HBA : Hid (Below w.heap.size w (w2.alloc (.cells #[.string (bk (someK R x))] 9))) := Lib.hid ((HB.out.trans (hb2.mono HB.out.size)).trans (((Below.refl _ _).alloc (Nat.le_refl _) _).mono (HB.out.trans (hb2.mono HB.out.size)).size))
        clear hb2
        go_wp2_with (at_builtin; go_loud (refine wpList_append_S rfl (.tmp 17) (.tmp 24) 32 32 rfl i0 (.string ⟨#[]⟩) 16 (.slice 9) Tryz.underlying32 Tryz.underlying32 (fun _ h => by cases h) hi hz0 hz1 hz2 rfl rfl rfl HOA.out HS.out hm9 hb9 HBA.out.size ?_; intro A8 c8 w8; generalize hnn : i + 1 = nn at *; intro ho8 hg8 hw8; have HO8 := Lib.hid ho8; have HB8 := Lib.hid (HBA.out.grown hg8 HBA.out.size (fun j hj => (HOA.out.lt j hj).1)); have HNN := Lib.hid hnn; clear ho8 hg8 hw8 hnn))
        go_roundw
        case rel => exact ⟨nn, A8, c8, by rw [← HNN.out]; rfl, rfl, by have := HNN.out; omega, by have := HNN.out; omega, by rw [HTK.out]; exact HO8.out, HB8.out⟩
        case measure => have := HNN.out; simp [intOf]; omega
      · have d2 : decide ((i : Int) < 6) = false := decide_eq_false (by omega)
        have d2' : decide (i < 6) = false := decide_eq_false hlt6
        have he6 : i = 6 := by omega
        have e1 : (idsK R xs).length = i := by unfold idsK; rw [List.length_map, List.length_take, HN.out]; omega
        have HE := Lib.hid e1
        have HT6 : Hid (strVs ((xs.take i).map (someK R)) = strVs (idsK R xs)) := Lib.hid (by rw [he6]; rfl)
        clear e1 he6
        go_wp2
        go_ret
        exact ⟨HB.out, A5, c5, by rw [HE.out]; rfl, by rw [HE.out, ← HT6.out]; exact HO.out⟩
    · have d1 : decide ((i : Int) < (n : Int)) = false := decide_eq_false (by omega)
      have d1' : decide (i < n) = false := decide_eq_false hlt
      have e1 : (idsK R xs).length = i := by unfold idsK; rw [List.length_map, List.length_take, HN.out]; omega
      have HE := Lib.hid e1
      have HT6 : Hid (strVs ((xs.take i).map (someK R)) = strVs (idsK R xs)) := Lib.hid (by
        unfold idsK
        have hni : n = i := by omega
        rw [List.take_of_length_le (l := xs) (i := i) (by rw [HN.out]; omega), List.take_of_length_le (l := xs) (i := 6) (by rw [HN.out]; omega)])
      clear e1
      go_wp2
      go_ret
      exact ⟨HB.out, A5, c5, by rw [HE.out]; rfl, by rw [HE.out, ← HT6.out]; exact HO.out⟩
end Go.Proofs.YtihanglnjghcfaaGreatDoor
namespace Go.Proofs.YtihanglnjghcfaaGreatDoor
open Go.RowKit Go.Maps
set_option linter.unusedVariables false
set_option linter.unusedSimpArgs false

/-- All that may be come to from some roots. -/
def univK (R : List Kn) (rs : List Gid) : List Gid := rs ++ R.flatMap fun x => ((lkOf x.kd x.b).getD []).map fun k => k.id.data.toList
theorem univ_of {G : Gid → Option Kn} {R : List Kn} {rs : List Gid} (hG : ∀ d o, G d = some o → o ∈ R) (hl : R.length ≤ 100) (hr : rs.length ≤ 100) (hb : ∀ x ∈ R, x.b.length ≤ 2000) : Univ G (univK R rs) where
  num := by
    unfold univK
    rw [List.length_append]
    have key : ∀ (Q : List Kn), (∀ x ∈ Q, x.b.length ≤ 2000) → (Q.flatMap fun x => ((lkOf x.kd x.b).getD []).map fun k => k.id.data.toList).length ≤ Q.length * 2001 := by
      intro Q
      induction Q with
      | nil => intro _; simp
      | cons x Q ih =>
        intro h
        rw [List.flatMap_cons, List.length_append, List.length_map, List.length_cons, Nat.succ_mul]
        have h1 := ih fun y hy => h y (List.mem_cons_of_mem _ hy)
        have h2 : ((lkOf x.kd x.b).getD []).length ≤ 2001 := by
          cases hk : lkOf x.kd x.b with
          | none => simp
          | some ks =>
            have := lkOf_num hk
            have := h x (by simp)
            show ks.length ≤ _
            omega
        omega
    have := key R hb
    have : R.length * 2001 ≤ 100 * 2001 := Nat.mul_le_mul_right _ hl
    omega
  sz := fun d o h => by have := hb o (hG d o h); omega
  lk := fun d o ks h hk k hkm => by
    unfold univK
    refine List.mem_append_right _ (List.mem_flatMap.2 ⟨o, hG d o h, ?_⟩)
    rw [hk]
    exact List.mem_map.2 ⟨k, hkm, rfl⟩
theorem univ_roots (R : List Kn) (rs : List Gid) : ∀ r ∈ rs, r ∈ univK R rs := fun r hr => List.mem_append_left _ hr
theorem someK_len {R : List Kn} (hR : IdR R) (n : Int) : (someK R n).length ≤ 40 := by
  unfold someK
  split
  · decide
  · cases h : R[n.toNat % R.length]? with
    | none => simp
    | some x =>
      show x.id.length ≤ 40
      rw [hR x (List.mem_of_getElem? h), idK_len]
      exact Nat.le_refl _
theorem getK_mem {R : List Kn} {d : Gid} {o : Kn} (h : getK R d = some o) : o ∈ R := List.mem_of_find?_eq_some h
theorem info_int8 : (Tryz.prog.info? 3).map (fun i => (i.zero, i.size, i.bytes)) = some (some (.int .i64 0), 1, 8) := by kernel_rfl
theorem made_ints (n : Nat) : (madeCells #[.int .i64 0] n).toList = List.replicate n (Value.int .i64 0) := by
  apply List.ext_getElem
  · simp [madeCells]
  · intro i h1 h2
    simp [madeCells, Nat.mod_one]
theorem makeI (w : World) (z : Nat) (hz : z ≤ 1000) : (Instr.makeSlice 22 (.int .i64 (z : Int)) (.int .i64 (z : Int))).run Tryz.prog w = .ok (.slice (some ⟨w.heap.size, 0, none⟩) z z) (w.alloc (.cells (madeCells #[.int .i64 0] z) 3)) := by
  obtain ⟨i0, hi, hz0, hz1, hz2⟩ := info_parts info_int8
  have hr := run_make (P := Tryz.prog) w 22 3 i0 (.int .i64 0) Tryz.underlying22 hi hz0 .i64 .i64 (z : Int) (z : Int) (by omega) (by omega) (by rw [hz2]; omega) (by omega)
  rw [hz1, Nat.mul_one] at hr
  exact hr
theorem ownsI (w : World) (z : Nat) (hz : z ≤ 1000) : OwnS (w.alloc (.cells (madeCells #[.int .i64 0] z) 3)) 0 3 1 (.slice (some ⟨w.heap.size, 0, none⟩) z z) z ((List.replicate z (0 : Int)).map (Value.int .i64)) := by
  refine ⟨by simp, .inr ⟨w.heap.size, 0, z, _, rfl, Nat.zero_le _, ⟨_, heap_alloc_new w _, .inl (Nat.le_refl _)⟩, Nat.le_refl _, by unfold maxLen; omega, by rw [size_madeCells]; omega, ?_⟩⟩
  rw [made_ints]
  simp
set_option maxRecDepth 100000 in
set_option maxHeartbeats 4000000 in
theorem graphOnce_walk (hSo : SortsS) (A : Option Addr) (n c : Nat) (xs : List Int) (A2 : Option Addr) (n2 c2 : Nat) (ys : List Int) (w : World) (hE : EnvO w) (hI : Ints .i64 w A xs) (hn : xs.length = n) (hnm : n ≤ 9223372036854775807) (hx : ∀ x ∈ xs, x ≤ 9223372036854775807) (hI2 : Ints .i64 w A2 ys) (hn2 : ys.length = n2) (hnm2 : n2 ≤ 9223372036854775807) (hy : ∀ x ∈ ys, x ≤ 9223372036854775807) :
    Calls Tryz.prog 4 #[.slice A n c, .slice A2 n2 c2] w fun e w' => e = .returned (.bool true) ∧ Below w.heap.size w w' := by
  have HSO := Lib.hid hSo
  have HE := Lib.hid hE
  have HLT := Lib.hid hE.lt
  have HMK := Lib.hid (make_any A n c xs w hI hn hnm)
  have HI2 := Lib.hid hI2
  have HY := Lib.hid (And.intro hn2 (And.intro hnm2 hy))
  clear hSo hE hI hn hnm hx hI2 hn2 hnm2 hy
  go_enter Tryz.func4, Tryz.ntmps4
  go_wp2_with fail
  refine HMK.out.mono ?_
  rintro e w1 ⟨hb1, r, R, rfl, hR1, hM, hRl⟩
  have HM := Lib.hid hM
  have HRL := Lib.hid hRl
  have hal : Below w1.heap.size w1 (w1.alloc (.cells #[.pointer (some ⟨r, 0, none⟩)] 24)) := (Below.refl _ _).alloc (Nat.le_refl _) _
  have hR2 := hR1.below hal
  have hb2 : Below w.heap.size w (w1.alloc (.cells #[.pointer (some ⟨r, 0, none⟩)] 24)) := hb1.trans (hal.mono hb1.size)
  have kR : (w1.alloc (.cells #[.pointer (some ⟨r, 0, none⟩)] 24)).cell? ⟨w1.heap.size, 0, none⟩ = some (.pointer (some ⟨r, 0, none⟩)) := by rw [World.cell?_alloc_at _ _ _ _ (by simp)]; rfl
  have hs1 := hb1.size
  clear hal hR1 hb1 hM hRl
  go_upto_region 2 with (fail)
  generalize w1.alloc (.cells #[.pointer (some ⟨r, 0, none⟩)] 24) = w2 at *
  generalize w1.heap.size = bR at *
  have HR2 := Lib.hid hR2
  obtain ⟨_, Ao, co, _, _, _, hce, _, _⟩ := hR2
  have k0 : w2.cell? ⟨r, 0, none⟩ = some (.slice Ao R.length co) := hce.cell 0 (by decide)
  have HB2 := Lib.hid hb2
  have HS1 := Lib.hid hs1
  have HKR := Lib.hid kR
  have hwz : IntKind.i64.wrap ((R.length : Int) + 1) = (R.length : Int) + 1 := IntWalk.i64_in _ (by have := HRL.out; omega)
  have hmk := makeI w2 (R.length + 1) (by have := HRL.out; omega)
  simp only [Int.natCast_add, Int.cast_ofNat_Int] at hmk
  clear hce hb2 hs1
  go_upto_region 3 with (fail)
  have hal3 : Below w2.heap.size w2 (w2.alloc (.cells (madeCells #[.int .i64 0] (R.length + 1)) 3)) := (Below.refl _ _).alloc (Nat.le_refl _) _
  have hOw := ownsI w2 (R.length + 1) (by have := HRL.out; omega)
  have hR3 := HR2.out.below hal3
  have hKR3 := (hal3.cell (block_lt HKR.out)).trans HKR.out
  have hal4 : Below (w2.heap.size + 1) (w2.alloc (.cells (madeCells #[.int .i64 0] (R.length + 1)) 3)) ((w2.alloc (.cells (madeCells #[.int .i64 0] (R.length + 1)) 3)).alloc (.cells #[.slice (some ⟨w2.heap.size, 0, none⟩) (R.length + 1) (R.length + 1)] 22)) := (Below.refl _ _).alloc (by simp) _
  have hs3 : (w2.alloc (.cells (madeCells #[.int .i64 0] (R.length + 1)) 3)).heap.size = w2.heap.size + 1 := by simp
  have hcA : ((w2.alloc (.cells (madeCells #[.int .i64 0] (R.length + 1)) 3)).alloc (.cells #[.slice (some ⟨w2.heap.size, 0, none⟩) (R.length + 1) (R.length + 1)] 22)).cell? ⟨(w2.alloc (.cells (madeCells #[.int .i64 0] (R.length + 1)) 3)).heap.size, 0, none⟩ = some (.slice (some ⟨w2.heap.size, 0, none⟩) (R.length + 1) (R.length + 1)) := by rw [World.cell?_alloc_at _ _ _ _ (by simp)]; rfl
  rw [hs3] at hcA
  rw [← hs3] at hal4
  generalize w2.alloc (.cells (madeCells #[.int .i64 0] (R.length + 1)) 3) = w3 at *
  have hR4 := hR3.below hal4
  have hOw4 := hOw.chg (S := fun _ => False) (Chg.of_below hal4) (fun _ _ h => h)
  have hKR4 := (hal4.cell (block_lt hKR3)).trans hKR3
  generalize w3.alloc (.cells #[.slice (some ⟨w2.heap.size, 0, none⟩) (R.length + 1) (R.length + 1)] 22) = w4 at *
  have hb4 : Below w.heap.size w w4 := (HB2.out.trans (hal3.mono HB2.out.size)).trans (hal4.mono (by have := HB2.out.size; omega))
  have hsb := HB2.out.size
  have hrr := HR2.out.1
  have hbRl := block_lt HKR.out
  have hs4 := hal4.size
  have hs1 := HS1.out
  have hcl4 := block_lt hcA
  have HST : Hid (OnceSt r bR (w2.heap.size + 1) w2.heap.size 0 R (fun k => w.heap.size ≤ k ∧ k < w4.heap.size) [] w4) := Lib.hid {
    low := fun k hk => hk.2
    rep := HR2.out.keep ((Chg.of_below (S := fun _ => False) hal3).trans (Chg.of_below (S := fun _ => False) hal4) (fun _ _ h => h)) (fun _ _ _ h => h) (fun k hk hl => ⟨⟨hk, by omega⟩, by omega⟩)
    fR := ⟨hs1, by show bR < _; have : bR < w2.heap.size := hbRl; omega⟩
    fA := ⟨by omega, hcl4⟩
    fa := ⟨hsb, by omega⟩
    cR := hKR4
    cA := hcA
    row := hOw4
    nR := by have : bR < w2.heap.size := hbRl; omega
    nA := by omega }
  have HB4 := Lib.hid hb4
  have HIDS := Lib.hid (lids_any (fun k => w.heap.size ≤ k) r R A2 n2 c2 ys w4 (hR4) (by have := HRL.out; omega) (HI2.out.below hb4) HY.out.1 HY.out.2.1 HY.out.2.2)
  have cR4 := HST.out.cR
  generalize w2.heap.size = ba at *
  clear hal3 hOw hR3 hKR3 hal4 hs3 hcA hR4 hOw4 hKR4 hb4 hsb hrr hbRl hs4 hs1 hcl4 hwz hmk k0 kR
  go_wp2_with fail
  refine HIDS.out.mono ?_
  rintro e w5 ⟨hb5, A5, c5, rfl, ho5⟩
  have HB5 := Lib.hid (HB4.out.trans (hb5.mono HB4.out.size))
  have hidl := idsK_len R ys
  have HCLO := Lib.hid (closure_any HSO.out (getter_once r bR (ba + 1) ba 0 R (by have := HRL.out; omega) (fun x hx => by have := (HM.out.made x hx).2; omega)) (univ_of (R := R) (rs := idsK R ys) (fun d o h => getK_mem h) (by have := HRL.out; omega) (by omega) (fun x hx => (HM.out.made x hx).2)) (fun k => w.heap.size ≤ k ∧ k < w4.heap.size) [] w5 A5 (idsK R ys).length c5 (idsK R ys) 200
    (HST.out.keep (Chg.of_below (S := fun k => w4.heap.size ≤ k) hb5) (fun k hk h => by have := hk.2; omega)) (HE.out.below HB5.out) (fun h => by have := h.1; have := HLT.out.1; omega) (fun h => by have := h.1; have := HLT.out.2; omega) ho5.strsAt rfl (by omega) (fun q hq => by
      unfold idsK at hq
      obtain ⟨y, _, rfl⟩ := List.mem_map.1 hq
      have := someK_len HM.out.ids y
      omega) (univ_roots R _))
  unfold fnV at HCLO
  clear hb5 ho5 hidl cR4
  go_wp2_with fail
  refine HCLO.out.mono ?_
  rintro e w6 ⟨F6, qs6, hs6, hnd, hc6, hf6, ha6⟩
  have HB6 : Hid (Below w.heap.size w w6) := Lib.hid (HB5.out.trans (hc6.below HB5.out.size (fun k hk h => by have := h.1; omega)))
  have HS6 : Hid (OnceSt r bR (ba + 1) ba 0 R F6 qs6 w6) := Lib.hid hs6
  have HND := Lib.hid hnd
  have hret : ∃ v, e = .returned v := by
    unfold ClosAns at ha6
    split at ha6
    · exact ⟨_, ha6⟩
    · obtain ⟨A9, h, _⟩ := ha6; exact ⟨_, h⟩
  obtain ⟨v6, rfl⟩ := hret
  have kA := hs6.cA
  have HAW := Lib.hid (awake_any HSO.out w6 (HE.out.below HB6.out))
  clear hs6 hnd hc6 hf6 ha6 HCLO
  go_wp2
  go_loopw [8] (fun vn wr => ∃ i : Nat, vn = .int .i64 i ∧ i ≤ R.length + 1 ∧ wr = w6) (fun vn _ => R.length + 1 - (intOf vn).toNat)
  case atStart => exact ⟨0, rfl, by omega, rfl⟩
  case round =>
    obtain ⟨i, rfl, hi, hwr⟩ := hrel
    subst hwr
    by_cases hlt : i < R.length + 1
    · have d1 : decide ((i : Int) < (R.length : Int) + 1) = true := decide_eq_true (by omega)
      have d1' : decide (i < R.length + 1) = true := decide_eq_true hlt
      have hlen := askF_len R qs6
      obtain ⟨g2, o2, c9, hv, _, _, hcl⟩ := HS6.out.row.cells (by simp; omega)
      have hone := askF_once R qs6 HND.out i
      have hle1 : ¬ (1 : Int) < (askF R qs6).getD i 0 := by rw [hone]; split <;> decide
      have hcc : wr.cell? ⟨ba, i, none⟩ = some (.int .i64 ((askF R qs6).getD i 0)) := by
        injection hv with hA _ _
        injection hA with hA
        injection hA with e1 e2
        subst e1; subst e2
        have h9 := hcl i (by simp; omega)
        rw [Nat.zero_add] at h9
        rw [h9, List.getElem?_map, List.getElem?_eq_getElem (by omega), List.getD_eq_getElem?_getD, List.getElem?_eq_getElem (by omega)]
        rfl
      generalize (askF R qs6).getD i 0 = av at *
      have d2 : decide ((1 : Int) < av) = false := decide_eq_false hle1
      have hle : ¬ ((R.length : Int) + 1) ≤ i := by omega
      have hn0 : (0 : Int) ≤ i := by omega
      have hnl : (i : Int) < (R.length : Int) + 1 := by omega
      have hw : IntKind.i64.wrap ((i : Int) + 1) = (i : Int) + 1 := IntWalk.i64_in _ (by have := HRL.out; omega)
      clear hcl hv hone hlen
      go_wp2
      go_roundw
      case rel => exact ⟨i + 1, rfl, by omega, by first | rfl | trivial⟩
      case measure => simp [intOf]; omega
    · have d1 : decide ((i : Int) < (R.length : Int) + 1) = false := decide_eq_false (by omega)
      have d1' : decide (i < R.length + 1) = false := decide_eq_false hlt
      go_wp2_with fail
      refine HAW.out.mono ?_
      rintro e w7 ⟨rfl, hb7⟩
      have HB7 := Lib.hid (HB6.out.trans (hb7.mono HB6.out.size))
      clear hb7
      go_wp2
      go_ret
      exact ⟨rfl, HB7.out⟩
end Go.Proofs.YtihanglnjghcfaaGreatDoor
namespace Go.Proofs.YtihanglnjghcfaaGreatDoor
open Go.RowKit Go.Maps
set_option linter.unusedVariables false
set_option linter.unusedSimpArgs false

/-- What a tag is of, in so many steps. -/
def peelG (G : Gid → Option Kn) : Nat → Gid → Option (Gid × Int)
  | 0, _ => none
  | n + 1, d =>
    match G d with
    | none => none
    | some o =>
      match lkOf o.kd o.b with
      | none => none
      | some _ =>
        match tgOf o.kd o.b with
        | some t => peelG G n t
        | none => some (d, o.kd)
/-- One step of it. -/
def peelS (G : Gid → Option Kn) (n : Nat) (d : Gid) : Option (Gid × Int) :=
  match G d with
  | none => none
  | some o =>
    match lkOf o.kd o.b with
    | none => none
    | some _ =>
      match tgOf o.kd o.b with
      | some t => peelG G n t
      | none => some (d, o.kd)
theorem peelG_succ (G : Gid → Option Kn) (n : Nat) (d : Gid) : peelG G (n + 1) d = peelS G n d := rfl
def peelV : Option (Gid × Int) → Value
  | none => .tuple #[.string ⟨#[]⟩, .int .i64 0, .bool false]
  | some (d, k) => .tuple #[.string (bk d), .int .i64 k, .bool true]
def PeelPost (St : (Nat → Prop) → List Gid → World → Prop) (F : Nat → Prop) (qs : List Gid) (R : Option (Gid × Int)) (w : World) (e : Ending) (w' : World) : Prop :=
  ∃ F' qs', St F' (qs ++ qs') w' ∧ Chg F w w' ∧ (∀ k, F' k → F k ∨ w.heap.size ≤ k) ∧ e = .returned (peelV R)
theorem ta_com (a : Value) (b c d e : Value) (W : World) : (Instr.typeAssert (.iface 103 (.agg #[a, b, c, d, e])) 92 96 true).run Tryz.prog W = .ok (.tuple #[.agg #[.string ⟨#[]⟩, .int .i64 0, .string ⟨#[]⟩, .string ⟨#[]⟩, .string ⟨#[]⟩], .bool false]) W := by kernel_rfl
theorem ta_tre (a : Value) (W : World) : (Instr.typeAssert (.iface 164 (.agg #[a])) 92 96 true).run Tryz.prog W = .ok (.tuple #[.agg #[.string ⟨#[]⟩, .int .i64 0, .string ⟨#[]⟩, .string ⟨#[]⟩, .string ⟨#[]⟩], .bool false]) W := by kernel_rfl
theorem ta_blo (a : Value) (W : World) : (Instr.typeAssert (.iface 148 (.agg #[a])) 92 96 true).run Tryz.prog W = .ok (.tuple #[.agg #[.string ⟨#[]⟩, .int .i64 0, .string ⟨#[]⟩, .string ⟨#[]⟩, .string ⟨#[]⟩], .bool false]) W := by kernel_rfl
theorem ta_tag (a : Value) (b c d e : Value) (W : World) : (Instr.typeAssert (.iface 96 (.agg #[a, b, c, d, e])) 92 96 true).run Tryz.prog W = .ok (.tuple #[.agg #[a, b, c, d, e], .bool true]) W := by kernel_rfl
/-- No tag: how it is told. -/
theorem ObjIs.noTag {w : World} {B : Nat} {kd : Int} {b : List UInt8} {IF : Value} (h : ObjIs w B kd b IF) (hk : kd ≠ 4) (W : World) :
    (Instr.typeAssert IF 92 96 true).run Tryz.prog W = .ok (.tuple #[.agg #[.string ⟨#[]⟩, .int .i64 0, .string ⟨#[]⟩, .string ⟨#[]⟩, .string ⟨#[]⟩], .bool false]) W := by
  rcases h with ⟨rfl, r, A, hr, rfl, ho⟩ | ⟨rfl, L, A, hL, rfl, ho⟩ | ⟨rfl, v, rfl⟩ | ⟨h4, _⟩
  · exact ta_com _ _ _ _ _ W
  · exact ta_tre _ W
  · exact ta_blo _ W
  · exact absurd h4 hk
theorem tgOf_no {kd : Int} {b : List UInt8} (h : kd ≠ 4) : tgOf kd b = none := by unfold tgOf; rw [if_neg h]
set_option maxRecDepth 100000 in
set_option maxHeartbeats 4000000 in
theorem peel_any {f : FuncId} {c1 c2 : Value} {G : Gid → Option Kn} {St : (Nat → Prop) → List Gid → World → Prop} (hg : Getter f c1 c2 G St) (F : Nat → Prop) (qs : List Gid) (w : World) (d : Gid)
    (hS : St F qs w) (hE : EnvO w) (h1 : ¬ F 1) (h2 : ¬ F 2) (hz : ∀ d o, G d = some o → o.b.length ≤ 268435456) :
    Calls Tryz.prog 22 #[fnV f c1 c2, .string (bk d)] w (PeelPost St F qs (peelG G 11 d) w) := by
  have HG := Lib.hid hg
  have HE := Lib.hid hE
  have HT := Lib.hid (And.intro hE.lt (And.intro h1 h2))
  have HZ := Lib.hid hz
  have HS0 := Lib.hid hS
  have HASK := Lib.hid (fun (F : Nat → Prop) (qs : List Gid) (w : World) (d : Gid) (hS : St F qs w) (hE : EnvO w) (h1 : ¬ F 1) (h2 : ¬ F 2) => ask_any hg F qs w d hS hE h1 h2 (fun x hx => by have := hz d x hx; omega))
  clear hg hE h1 h2 hz hS
  unfold fnV at *
  go_enter Tryz.func22, Tryz.ntmps22
  go_wp2
  go_loopw [1, 11] (fun v1 v11 wr => ∃ (j : Nat) (d' : Gid) (F1 : Nat → Prop) (qs1 : List Gid), v11 = .int .i64 j ∧ v1 = .string (bk d') ∧ j ≤ 11 ∧ St F1 (qs ++ qs1) wr ∧ Chg F w wr ∧ (∀ k, F1 k → F k ∨ w.heap.size ≤ k) ∧ peelG G 11 d = peelG G (11 - j) d') (fun _ v11 _ => 11 - (intOf v11).toNat)
  case atStart => exact ⟨0, d, F, [], rfl, rfl, by omega, by rw [List.append_nil]; exact HS0.out, Chg.refl _ _, fun k hk => .inl hk, rfl⟩
  case round =>
    obtain ⟨j, d', F1, qs1, rfl, rfl, hj, hs, hc, hf, heq⟩ := hrel
    have HH := Lib.hid (And.intro hs (And.intro hc (And.intro hf heq)))
    clear hs hc hf heq
    by_cases hlt : j < 11
    · have d1 : decide ((j : Int) < 11) = true := decide_eq_true (by omega)
      have d1' : decide (j < 11) = true := decide_eq_true hlt
      have HA := Lib.hid (HASK.out F1 (qs ++ qs1) wr d' HH.out.1 (HE.out.chg HH.out.2.1 HT.out.2.1 HT.out.2.2) (fun h => by rcases HH.out.2.2.1 _ h with h | h; exact HT.out.2.1 h; have := HT.out.1.1; omega) (fun h => by rcases HH.out.2.2.1 _ h with h | h; exact HT.out.2.2 h; have := HT.out.1.2; omega))
      have hw1 : IntKind.i64.wrap ((j : Int) + 1) = (j : Int) + 1 := IntWalk.i64_in _ (by omega)
      have HST : Hid (peelG G 11 d = peelS G (11 - (j + 1)) d') := Lib.hid (by rw [HH.out.2.2.2, show 11 - j = (11 - (j + 1)) + 1 by omega]; exact peelG_succ G _ d')
      go_wp2_with fail
      refine HA.out.mono ?_
      rintro e w2 ⟨F2, hs2, hc2, hf2, ha2⟩
      have HC2 : Hid (Chg F w w2 ∧ ∀ k, F2 k → F k ∨ w.heap.size ≤ k) := Lib.hid ⟨HH.out.2.1.trans hc2 (fun k hk h => by rcases HH.out.2.2.1 k h with h | h; exact h; omega), fun k hk => by
        rcases hf2 k hk with h | h
        · exact HH.out.2.2.1 k h
        · have := HH.out.2.1.size; exact .inr (by omega)⟩
      have HS2 : Hid (St F2 (qs ++ (qs1 ++ [d'])) w2) := Lib.hid (by rw [← List.append_assoc]; exact hs2)
      have HLO := Lib.hid (HG.out.low hs2)
      clear hs2 hc2 hf2
      cases hgd : G d' with
      | none =>
        rw [hgd] at ha2
        obtain rfl := ha2
        have HR : Hid (peelG G 11 d = none) := Lib.hid (by rw [HST.out]; unfold peelS; rw [hgd])
        clear hgd
        go_wp2
        go_ret3
        rw [HR.out]
        exact ⟨F2, _, HS2.out, HC2.out.1, HC2.out.2, rfl⟩
      | some o =>
        rw [hgd] at ha2
        rcases ha2 with ⟨hlk, rfl⟩ | ⟨IF, B1, rfl, hB1, hFB, hlk, ho⟩
        · have HR : Hid (peelG G 11 d = none) := Lib.hid (by rw [HST.out]; unfold peelS; rw [hgd]; dsimp only; rw [hlk])
          clear hgd hlk
          go_wp2
          go_ret3
          rw [HR.out]
          exact ⟨F2, _, HS2.out, HC2.out.1, HC2.out.2, rfl⟩
        · obtain ⟨ks, hks⟩ : ∃ ks, lkOf o.kd o.b = some ks := by cases h : lkOf o.kd o.b with | none => exact absurd h hlk | some ks => exact ⟨ks, rfl⟩
          have HBO := Lib.hid (HZ.out d' o hgd)
          by_cases h4 : o.kd = 4
          · obtain ⟨r, hr, rfl⟩ : ∃ r, tagF o.b = some r ∧ IF = .iface 96 (.agg #[.string (bk r.o), .int .i64 (r.k : Int), .string (bk r.n), .string (bk r.g), .string (bk r.m)]) := by
              rcases ho with ⟨h, _⟩ | ⟨h, _⟩ | ⟨h, _⟩ | ⟨_, r, hr, h⟩
              · omega
              · omega
              · omega
              · exact ⟨r, hr, h⟩
            have HR : Hid (peelG G 11 d = peelG G (11 - (j + 1)) r.o) := Lib.hid (by
              rw [HST.out]; unfold peelS; rw [hgd]; dsimp only; rw [hks]; dsimp only
              rw [show tgOf o.kd o.b = some r.o by unfold tgOf; rw [if_pos h4, hr]; rfl])
            have hta := ta_tag (.string (bk r.o)) (.int .i64 (r.k : Int)) (.string (bk r.n)) (.string (bk r.g)) (.string (bk r.m)) w2
            have z0 : (w2.alloc (.cells #[.string (bk r.o), .int .i64 (r.k : Int), .string (bk r.n), .string (bk r.g), .string (bk r.m)] 96)).cell? ⟨w2.heap.size, 0, none⟩ = some (.string (bk r.o)) := by rw [World.cell?_alloc_at _ _ _ _ (by simp)]; rfl
            have hbA : Below w2.heap.size w2 (w2.alloc (.cells #[.string (bk r.o), .int .i64 (r.k : Int), .string (bk r.n), .string (bk r.g), .string (bk r.m)] 96)) := (Below.refl _ _).alloc (Nat.le_refl _) _
            have HSA := Lib.hid (HG.out.keep HS2.out (Chg.of_below (S := fun k => w2.heap.size ≤ k) hbA) (fun k hk => Nat.not_le.2 (HLO.out k hk)))
            have HCA := Lib.hid (HC2.out.1.trans (Chg.of_below (S := fun _ => False) hbA) (fun _ _ h => h.elim))
            clear hgd hks hlk ho h4 hr hbA
            go_wp2
            go_roundw
            case rel => exact ⟨j + 1, r.o, F2, _, rfl, rfl, hlt, HSA.out, HCA.out, HC2.out.2, HR.out⟩
            case measure => simp [intOf]; omega
          · have hta := ho.noTag h4 w2
            have HR : Hid (peelG G 11 d = some (d', o.kd)) := Lib.hid (by
              rw [HST.out]; unfold peelS; rw [hgd]; dsimp only; rw [hks]; dsimp only
              rw [tgOf_no h4])
            obtain ⟨ks', t, v, fl, fk, rl, rk, _, rfl, hm⟩ := ho.methW (by have := HBO.out; omega)
            have HM := Lib.hid hm
            have hmk := hm.mkd.look
            rw [mdepth] at hmk
            have hme := hm.mkd.ent
            have hbA : Below w2.heap.size w2 (w2.alloc (.cells #[.string ⟨#[]⟩, .int .i64 0, .string ⟨#[]⟩, .string ⟨#[]⟩, .string ⟨#[]⟩] 96)) := (Below.refl _ _).alloc (Nat.le_refl _) _
            have HBA := Lib.hid hbA
            clear hgd hks hlk ho h4 hm hbA
            go_wp2_with fail
            refine (HM.out.ckd _).mono ?_
            rintro e w4 ⟨rfl, hb4⟩
            have HB4 := Lib.hid (HBA.out.trans (hb4.mono HBA.out.size))
            clear hb4 hmk hme
            go_wp2
            go_ret3
            rw [HR.out]
            exact ⟨F2, _, HG.out.keep HS2.out (Chg.of_below (S := fun k => w2.heap.size ≤ k) HB4.out) (fun k hk => Nat.not_le.2 (HLO.out k hk)), HC2.out.1.trans (Chg.of_below (S := fun _ => False) HB4.out) (fun _ _ h => h.elim), HC2.out.2, rfl⟩
    · have d1 : decide ((j : Int) < 11) = false := decide_eq_false (by omega)
      have d1' : decide (j < 11) = false := decide_eq_false hlt
      have HR : Hid (peelG G 11 d = none) := Lib.hid (by rw [HH.out.2.2.2, show 11 - j = 0 by omega]; rfl)
      go_wp2
      go_ret3
      rw [HR.out]
      exact ⟨F1, _, HH.out.1, HH.out.2.1, HH.out.2.2.1, rfl⟩
end Go.Proofs.YtihanglnjghcfaaGreatDoor
