/- The law's Make: a history out of small numbers. -/
import Derived.Test.YtihanglnjghcfaaGreatDoorGCt21
import Derived.Test.YtihanglnjghcfaaGreatDoorGCt14
import Derived.Test.YtihanglnjghcfaaGreatDoorGCt19
import Derived.Deep.CutBlock
import Derived.Deep.DeepCutAuto
import Derived.Test.YtihanglnjghcfaaGreatDoorGCt3
namespace Go.Proofs.YtihanglnjghcfaaGreatDoor
open Go.RowKit Go.Maps
set_option linter.unusedVariables false
set_option linter.unusedSimpArgs false

theorem and65535 (n : Int) : ∃ N : Nat, bits .and .i64 n 65535 = (N : Int) ∧ N < 65536 := by
 have h127 : (BitVec.ofInt 64 65535).toNat = 2 ^ 16 - 1 := by decide
 have key : (BitVec.ofInt 64 n &&& BitVec.ofInt 64 65535).toNat = (n % ((2 ^ 64 : Nat) : Int)).toNat % 2 ^ 16 := by
  rw [BitVec.toNat_and, BitVec.toNat_ofInt, h127, Nat.and_two_pow_sub_one_eq_mod]
 refine ⟨(n % ((2 ^ 64 : Nat) : Int)).toNat % 2 ^ 16, ?_, by omega⟩
 show IntKind.i64.wrap ((BitVec.ofInt 64 n &&& BitVec.ofInt 64 65535).toNat : Nat) = _
 rw [key, IntWalk.i64_in _ (by omega)]
theorem and3 (n : Int) : ∃ N : Nat, bits .and .i64 n 3 = (N : Int) ∧ N < 4 := by
 have h127 : (BitVec.ofInt 64 3).toNat = 2 ^ 2 - 1 := by decide
 have key : (BitVec.ofInt 64 n &&& BitVec.ofInt 64 3).toNat = (n % ((2 ^ 64 : Nat) : Int)).toNat % 2 ^ 2 := by
  rw [BitVec.toNat_and, BitVec.toNat_ofInt, h127, Nat.and_two_pow_sub_one_eq_mod]
 refine ⟨(n % ((2 ^ 64 : Nat) : Int)).toNat % 2 ^ 2, ?_, by omega⟩
 show IntKind.i64.wrap ((BitVec.ofInt 64 n &&& BitVec.ofInt 64 3).toNat : Nat) = _
 rw [key, IntWalk.i64_in _ (by omega)]
/-- A made history. -/
structure MkOk (R : List Kn) : Prop where
 ids : IdR R
 one : (R.map (·.id)).Nodup
 made : ∀ x ∈ R, MadeIn R x ∧ x.b.length ≤ 2000
theorem HasK.more {R : List Kn} {k : Int} {d : Gid} (h : HasK R k d) (x : Kn) : HasK (R ++ [x]) k d := by
 obtain ⟨y, hy, h1, h2⟩ := h
 exact ⟨y, List.mem_append_left _ hy, h1, h2⟩
theorem MadeIn.more {R : List Kn} {x : Kn} (h : MadeIn R x) (z : Kn) : MadeIn (R ++ [z]) x := by
 rcases h with h | ⟨h0, u, hu, h⟩ | ⟨h0, c, N, hc, h⟩ | ⟨h0, t, P, N, ht, hP, h⟩
 · exact .inl h
 · refine .inr (.inl ⟨h0, u, hu.more z, ?_⟩)
   rcases h with h | ⟨N, t, hN, ht, h⟩
   · exact .inl h
   · exact .inr ⟨N, t, hN, ht.more z, h⟩
 · exact .inr (.inr (.inl ⟨h0, c, N, hc.more z, h⟩))
 · exact .inr (.inr (.inr ⟨h0, t, P, N, ht.more z, fun p hp => (hP p hp).more z, h⟩))
theorem getK_none {R : List Kn} {d : Gid} (h : getK R d = none) : ∀ x ∈ R, x.id ≠ d := fun x hx he => by
 unfold getK at h
 rw [List.find?_eq_none] at h
 exact h x hx (by simp [he])
theorem MkOk.step {R R' : List Kn} (h : MkOk R) (hs : MadeStep R R') : MkOk R' ∧ R'.length ≤ R.length + 1 := by
 rcases hs with rfl | ⟨x, rfl, hg, hid, hm, hb⟩
 · exact ⟨h, by omega⟩
 · refine ⟨⟨?_, ?_, ?_⟩, by simp⟩
   · intro y hy
     rcases List.mem_append.1 hy with hy | hy
     · exact h.ids y hy
     · rw [List.mem_singleton.1 hy]; exact hid
   · rw [List.map_append, List.nodup_append]
     refine ⟨h.one, by simp, fun a ha b hb => ?_⟩
     obtain ⟨y, hy, rfl⟩ := List.mem_map.1 ha
     simp at hb
     subst hb
     exact getK_none hg y hy
   · intro y hy
     rcases List.mem_append.1 hy with hy | hy
     · exact ⟨(h.made y hy).1.more x, (h.made y hy).2⟩
     · rw [List.mem_singleton.1 hy]; exact ⟨hm.more x, hb⟩
theorem MkOk.nil : MkOk [] := ⟨fun x hx => by simp at hx, List.Pairwise.nil, fun x hx => by simp at hx⟩
theorem RepAt.new (w : World) (vh : ByteArray) : RepAt (w.alloc (.cells #[.slice none 0 0, .slice none 0 0, .string vh, .bool false] 47)) (fun k => w.heap.size ≤ k) w.heap.size [] := by
 refine ⟨Nat.le_refl _, none, 0, .slice none 0 0, .string vh, false, ?_, OwnS.nil _ _ _ _, fun k hk => by simp [Value.ownBlock] at hk⟩
 exact Cel.new w _ #[.slice none 0 0, .slice none 0 0, .string vh, .bool false] _ (fun i hi => by
  have : i = 0 ∨ i = 1 ∨ i = 2 ∨ i = 3 := by simp at hi; omega
  rcases this with rfl | rfl | rfl | rfl <;> rfl)
def headW : ByteArray := ⟨#[114, 101, 102, 115, 47, 104, 101, 97, 100, 115, 47, 109, 97, 105, 110]⟩
def MakePost (w : World) (e : Ending) (w' : World) : Prop := Below w.heap.size w w' ∧ ∃ r R, e = .returned (.pointer (some ⟨r, 0, none⟩)) ∧ RepAt w' (fun k => w.heap.size ≤ k) r R ∧ MkOk R ∧ R.length ≤ 30
set_option maxRecDepth 100000 in
set_option maxHeartbeats 4000000 in
theorem make_any (A : Option Addr) (n c : Nat) (xs : List Int) (w : World) (hI : Ints .i64 w A xs) (hn : xs.length = n) (hnm : n ≤ 9223372036854775807) :
 Calls Tryz.prog 10 #[.slice A n c] w (MakePost w) := by
 have HI := Lib.hid hI
 have HN := Lib.hid hn
 have hR0 := RepAt.new w headW
 have hB0 : Below w.heap.size w (w.alloc (.cells #[.slice none 0 0, .slice none 0 0, .string headW, .bool false] 47)) := (Below.refl _ _).alloc (Nat.le_refl _) _
 unfold headW at hR0 hB0
 clear hI hn
 go_enter Tryz.func10, Tryz.ntmps10
 go_upto_region 2 with (fail)
 generalize w.alloc (.cells #[.slice none 0 0, .slice none 0 0, .string ⟨#[114, 101, 102, 115, 47, 104, 101, 97, 100, 115, 47, 109, 97, 105, 110]⟩, .bool false] 47) = w1 at *
 have HR0 := Lib.hid hR0
 have HB0 := Lib.hid hB0
 clear hR0 hB0
 generalize hr : w.heap.size = r at *
 go_wp2
 go_loopw [4] (fun vn wr => ∃ (i : Nat) (R : List Kn), vn = .int .i64 i ∧ i ≤ n ∧ i ≤ 30 ∧ RepAt wr (fun k => r ≤ k) r R ∧ MkOk R ∧ R.length ≤ i ∧ Below r w wr) (fun vn _ => 30 - (intOf vn).toNat)
 case atStart => exact ⟨0, [], rfl, by omega, by omega, HR0.out, MkOk.nil, Nat.le_refl _, HB0.out⟩
 case round =>
  obtain ⟨i, R, rfl, hin, hi30, hR, hM, hRl, hb⟩ := hrel
  have HR := Lib.hid hR
  have HM := Lib.hid hM
  have HB := Lib.hid hb
  have HL := Lib.hid hRl
  clear hR hM hb hRl
  by_cases hlt : i < n
  · have d1 : decide ((i : Int) < (n : Int)) = true := decide_eq_true (by omega)
    have d1' : decide (i < n) = true := decide_eq_true hlt
    by_cases hlt3 : i < 30
    · have d2 : decide ((i : Int) < 30) = true := decide_eq_true (by omega)
      have d2' : decide (i < 30) = true := decide_eq_true hlt3
      have hix : i < xs.length := by rw [HN.out]; exact hlt
      obtain ⟨b, o, hA, hbl, hcl⟩ := HI.out (by omega)
      have hc0 := hcl i hix
      subst hA
      generalize hxi : xs.getD i 0 = x at *
      have f0 := (HB.out.cell (p := ⟨b, o + i, none⟩) (by rw [← hr]; exact hbl)).trans hc0
      obtain ⟨N, hN, hN2⟩ := and65535 x
      obtain ⟨k, hk, hk2⟩ := and3 (N : Int)
      have hle : ¬ (n : Int) ≤ i := by omega
      have hn0 : (0 : Int) ≤ i := by omega
      have hnl : (i : Int) < n := by omega
      have hw1 : IntKind.i64.wrap ((i : Int) + 1) = (i : Int) + 1 := IntWalk.i64_in _ (by omega)
      have HAD := Lib.hid (ladd_any (fun k => r ≤ k) r R k (N / 4) wr HR.out (fun q hq => by have := HB.out.size; omega) (by have := HL.out; omega) HM.out.ids (by omega))
      clear hcl hc0 hbl hxi hix hN2 hk2
      go_wp2_with fail
      refine HAD.out.mono ?_
      rintro e w2 ⟨rfl, R', hR', hc', hst⟩
      have HM2 := Lib.hid (HM.out.step hst)
      have HR2 := Lib.hid hR'
      have HB2 := Lib.hid (HB.out.trans (hc'.below (by rw [← hr] at *; exact HB.out.size) (fun q hq h => by have h2 : r ≤ q := h; omega)))
      clear hR' hc' hst hr
      go_wp2
      go_roundw
      case rel => exact ⟨i + 1, R', rfl, hlt, hlt3, HR2.out, HM2.out.1, by have := HM2.out.2; have := HL.out; omega, HB2.out⟩
      case measure => simp [intOf]; omega
    · have d2 : decide ((i : Int) < 30) = false := decide_eq_false (by omega)
      have d2' : decide (i < 30) = false := decide_eq_false hlt3
      go_wp2
      go_ret
      exact ⟨by rw [hr]; exact HB.out, r, R, rfl, by rw [hr]; exact HR.out, HM.out, by have := HL.out; omega⟩
  · have d1 : decide ((i : Int) < (n : Int)) = false := decide_eq_false (by omega)
    have d1' : decide (i < n) = false := decide_eq_false hlt
    go_wp2
    go_ret
    exact ⟨by rw [hr]; exact HB.out, r, R, rfl, by rw [hr]; exact HR.out, HM.out, by have := HL.out; omega⟩
end Go.Proofs.YtihanglnjghcfaaGreatDoor
namespace Go.Proofs.YtihanglnjghcfaaGreatDoor
open Go.RowKit Go.Maps
set_option linter.unusedVariables false
set_option linter.unusedSimpArgs false

def CheckPost (St : (Nat → Prop) → List Gid → World → Prop) (F : Nat → Prop) (qs : List Gid) (R : Except Int (List Git)) (w : World) (e : Ending) (w' : World) : Prop :=
 (∃ F' qs', St F' (qs ++ qs') w' ∧ Chg F w w' ∧ (∀ k, F' k → F k ∨ w.heap.size ≤ k)) ∧ e = .returned (.int .i64 (match R with | .error x => x | .ok _ => 0))
set_option maxRecDepth 100000 in
theorem check_any (hSo : SortsS) {f : FuncId} {c1 c2 : Value} {G : Gid → Option Kn} {St : (Nat → Prop) → List Gid → World → Prop} (hg : Getter f c1 c2 G St) {U : List Gid} (hU : Univ G U) (F : Nat → Prop) (qs : List Gid) (w : World) (A : Option Addr) (n c : Nat) (rs : List Gid) (most : Int)
 (hS : St F qs w) (hE : EnvO w) (h1 : ¬ F 1) (h2 : ¬ F 2) (hR : StrsAt w A (rs.map bk)) (hn : rs.length = n) (hl : n ≤ 268435456) (hs : ∀ r ∈ rs, r.length ≤ 1099511627776) (hrU : ∀ r ∈ rs, r ∈ U) :
 Calls Tryz.prog 20 #[fnV f c1 c2, .slice A n c, .int .i64 most] w (CheckPost St F qs (closR G U rs most) w) := by
 have HC := Lib.hid (closure_any hSo hg hU F qs w A n c rs most hS hE h1 h2 hR hn hl hs hrU)
 clear hg hU hS hE h1 h2 hR hn hl hs hrU
 generalize closR G U rs most = R at *
 unfold fnV at *
 go_enter Tryz.func20, Tryz.ntmps20
 go_wp2_with fail
 refine HC.out.mono ?_
 rintro e w1 ⟨F', qs', hs, _, hc, hf, ha⟩
 cases R with
 | error x =>
  obtain rfl := ha
  have HF := Lib.hid (And.intro hs (And.intro hc hf))
  clear hs hc hf
  go_wp2
  go_ret
  exact ⟨⟨F', qs', HF.out.1, HF.out.2.1, HF.out.2.2⟩, rfl⟩
 | ok m =>
  obtain ⟨A2, rfl, _⟩ := ha
  have HF := Lib.hid (And.intro hs (And.intro hc hf))
  clear hs hc hf
  go_wp2
  go_ret
  exact ⟨⟨F', qs', HF.out.1, HF.out.2.1, HF.out.2.2⟩, rfl⟩
/-- The fixed history. -/
def awR : List Kn := [⟨2, [], et_d⟩, ⟨1, ec_b, ec_d⟩]
theorem aw_one : addK [] 2 [] = [⟨2, [], et_d⟩] := by
 unfold addK
 rw [show idK 2 [] = et_d from et_id]
 rfl
theorem aw_two : addK [⟨2, [], et_d⟩] 1 ec_b = awR := by
 unfold addK
 rw [ec_id]
 have : getK [⟨2, [], et_d⟩] ec_d = none := by
  unfold getK
  rw [List.find?_eq_none]
  intro x hx
  simp at hx
  subst hx
  simp
  exact ec_ne
 rw [this]
 rfl
theorem aw_lk1 : lkOf 1 ec_b = some [⟨bk et_d, 2⟩] := by kernel_rfl
theorem aw_lk2 : lkOf 2 [] = some [] := by kernel_rfl
theorem aw_bytes : strOfNums (commitL (bk et_d) [] perW perW ⟨#[]⟩) = bk ec_b := by kernel_rfl
theorem aw_get {d : Gid} {o : Kn} (h : withoutK awR [] d = some o) : o = ⟨2, [], et_d⟩ ∨ o = ⟨1, ec_b, ec_d⟩ := by
 unfold withoutK at h
 split at h
 · cases h
 · have := List.mem_of_find?_eq_some h
   simpa [awR] using this
theorem aw_univ : Univ (withoutK awR []) [ec_d, et_d] where
 num := by simp
 sz := fun d o h => by
  rcases aw_get h with rfl | rfl
  · simp
  · show ec_b.length ≤ _; decide
 lk := fun d o ks h hk k hkm => by
  rcases aw_get h with rfl | rfl
  · rw [show lkOf 2 [] = some [] from aw_lk2] at hk
    injection hk with hk; subst hk; simp at hkm
  · rw [show lkOf 1 ec_b = _ from aw_lk1] at hk
    injection hk with hk; subst hk; simp at hkm
    subst hkm
    show (bk et_d).data.toList ∈ _
    rw [bk_list]; simp
theorem aw_clos9 : closR (withoutK awR []) [ec_d, et_d] [ec_d] 9 = .ok [⟨ec_d, 1⟩, ⟨et_d, 2⟩] := by kernel_rfl
theorem aw_clos1 : closR (withoutK awR []) [ec_d, et_d] [ec_d] 1 = .error 5 := by kernel_rfl
end Go.Proofs.YtihanglnjghcfaaGreatDoor
namespace Go.Proofs.YtihanglnjghcfaaGreatDoor
open Go.RowKit Go.Maps
set_option linter.unusedVariables false
set_option linter.unusedSimpArgs false

theorem StrsAt.one (w : World) (d : Gid) : StrsAt (w.alloc (.cells #[.string (bk d)] 9)) (some ⟨w.heap.size, 0, none⟩) ([d].map bk) := fun _ =>
 ⟨w.heap.size, 0, rfl, by simp, fun i s hi => by
  have : i = 0 := by have := (List.getElem?_eq_some_iff.1 hi).1; simp at this; exact this
  subst this
  simp at hi
  subst hi
  rw [World.cell?_alloc_at _ _ _ _ (by simp)]; rfl⟩
/-- The closure by way of the law's Get. -/
theorem clos_get (hSo : SortsS) {B r b1 b2 : Nat} {W : World} {R : List Kn} {gone : Gid} {U : List Gid} (hU : Univ (withoutK R gone) U) (hR : RepAt W (fun k => B ≤ k) r R) (hl : R.length ≤ 1073741824) (hE : EnvO W)
 (ht : 1 < B ∧ 2 < B) (hB : B ≤ W.heap.size) (h1 : B ≤ b1) (h2 : B ≤ b2) (k1 : W.cell? ⟨b1, 0, none⟩ = some (.pointer (some ⟨r, 0, none⟩))) (k2 : W.cell? ⟨b2, 0, none⟩ = some (.string (bk gone))) (hz : ∀ x ∈ R, x.b.length ≤ 268435456)
 (A : Option Addr) (n c : Nat) (rs : List Gid) (most : Int) (hS : StrsAt W A (rs.map bk)) (hn : rs.length = n) (hln : n ≤ 268435456) (hs : ∀ r ∈ rs, r.length ≤ 1099511627776) (hrU : ∀ r ∈ rs, r ∈ U) :
 Calls Tryz.prog 16 #[fnV 38 (.pointer (some ⟨b1, 0, none⟩)) (.pointer (some ⟨b2, 0, none⟩)), .slice A n c, .int .i64 most] W fun e w' =>
  RepAt w' (fun k => B ≤ k) r R ∧ Chg (fun k => B ≤ k) W w' ∧ ClosAns (closR (withoutK R gone) U rs most) W w' e := by
 have hst : GetSt r b1 b2 R gone (fun k => B ≤ k ∧ k < W.heap.size) [] W := ⟨fun k h => h.2, hR.mono fun k hk hl => ⟨hk, hl⟩, ⟨h1, block_lt k1⟩, ⟨h2, block_lt k2⟩, k1, k2⟩
 refine (closure_any hSo (getter_get r b1 b2 R gone hl (fun x hx => by have := hz x hx; omega)) hU _ [] W A n c rs most hst hE (fun h => by have := h.1; omega) (fun h => by have := h.1; omega) hS hn hln hs hrU).mono ?_
 rintro e w' ⟨F', qs', hst', _, hc, hf, ha⟩
 refine ⟨hst'.2.1.mono fun k hk _ => ?_, hc.mono fun k _ h => h.1, ha⟩
 rcases hf k hk with h | h
 · exact h.1
 · omega
theorem check_get (hSo : SortsS) {B r b1 b2 : Nat} {W : World} {R : List Kn} {gone : Gid} {U : List Gid} (hU : Univ (withoutK R gone) U) (hR : RepAt W (fun k => B ≤ k) r R) (hl : R.length ≤ 1073741824) (hE : EnvO W)
 (ht : 1 < B ∧ 2 < B) (hB : B ≤ W.heap.size) (h1 : B ≤ b1) (h2 : B ≤ b2) (k1 : W.cell? ⟨b1, 0, none⟩ = some (.pointer (some ⟨r, 0, none⟩))) (k2 : W.cell? ⟨b2, 0, none⟩ = some (.string (bk gone))) (hz : ∀ x ∈ R, x.b.length ≤ 268435456)
 (A : Option Addr) (n c : Nat) (rs : List Gid) (most : Int) (hS : StrsAt W A (rs.map bk)) (hn : rs.length = n) (hln : n ≤ 268435456) (hs : ∀ r ∈ rs, r.length ≤ 1099511627776) (hrU : ∀ r ∈ rs, r ∈ U) :
 Calls Tryz.prog 20 #[fnV 38 (.pointer (some ⟨b1, 0, none⟩)) (.pointer (some ⟨b2, 0, none⟩)), .slice A n c, .int .i64 most] W fun e w' =>
  RepAt w' (fun k => B ≤ k) r R ∧ Chg (fun k => B ≤ k) W w' ∧ e = .returned (.int .i64 (match closR (withoutK R gone) U rs most with | .error x => x | .ok _ => 0)) := by
 have hst : GetSt r b1 b2 R gone (fun k => B ≤ k ∧ k < W.heap.size) [] W := ⟨fun k h => h.2, hR.mono fun k hk hl => ⟨hk, hl⟩, ⟨h1, block_lt k1⟩, ⟨h2, block_lt k2⟩, k1, k2⟩
 refine (check_any hSo (getter_get r b1 b2 R gone hl (fun x hx => by have := hz x hx; omega)) hU _ [] W A n c rs most hst hE (fun h => by have := h.1; omega) (fun h => by have := h.1; omega) hS hn hln hs hrU).mono ?_
 rintro e w' ⟨⟨F', qs', hst', hc, hf⟩, ha⟩
 refine ⟨hst'.2.1.mono fun k hk _ => ?_, hc.mono fun k _ h => h.1, ha⟩
 rcases hf k hk with h | h
 · exact h.1
 · omega
set_option maxRecDepth 100000 in
set_option maxHeartbeats 4000000 in
theorem awake_any (hSo : SortsS) (w : World) (hE : EnvO w) : Calls Tryz.prog 11 #[] w fun e w' => e = .returned (.bool true) ∧ Below w.heap.size w w' := by
 have HSO := Lib.hid hSo
 have HE := Lib.hid hE
 have HLT := Lib.hid hE.lt
 have hR0 := RepAt.new w ⟨#[]⟩
 have hB0 : Below w.heap.size w (w.alloc (.cells #[.slice none 0 0, .slice none 0 0, .string ⟨#[]⟩, .bool false] 47)) := (Below.refl _ _).alloc (Nat.le_refl _) _
 clear hSo hE
 go_enter Tryz.func11, Tryz.ntmps11
 go_upto_region 2 with (fail)
 generalize w.alloc (.cells #[.slice none 0 0, .slice none 0 0, .string ⟨#[]⟩, .bool false] 47) = w1 at *
 have HR0 := Lib.hid hR0
 have HB0 := Lib.hid hB0
 clear hR0 hB0
 have HA1 := radd_any (fun k => w.heap.size ≤ k) w.heap.size [] 2 [] w1 HR0.out (fun k hk => by have := HB0.out.size; omega) (by simp) (by simp)
 have HA1 := Lib.hid HA1
 unfold AddK at HA1
 rw [aw_one, show idK 2 [] = et_d from et_id, show bk [] = ⟨#[]⟩ from rfl] at HA1
 go_wp2_with fail
 refine HA1.out.mono ?_
 rintro e w2 ⟨rfl, hr2, hc2⟩
 have HR2 := Lib.hid hr2
 have HB2 := Lib.hid (HB0.out.trans (hc2.below HB0.out.size (fun k hk h => by have h2 : w.heap.size ≤ k := h; omega)))
 clear hr2 hc2 HA1
 have HREF := Lib.hid (refCommit_any ⟨#[]⟩ (.slice none 0 0) (bk et_d) none 0 0 [] perW perW ⟨#[]⟩ ⟨#[]⟩ 0 ⟨#[]⟩ ⟨#[]⟩ w2 StrsAt.nil rfl (by decide) (by decide +kernel))
 rw [aw_bytes] at HREF
 unfold perW at HREF
 go_wp2_with fail
 refine HREF.out.mono ?_
 rintro e w3 ⟨rfl, hb3⟩
 have HB3 := Lib.hid (HB2.out.trans (hb3.mono HB2.out.size))
 have HA2 := radd_any (fun k => w.heap.size ≤ k) w.heap.size [⟨2, [], et_d⟩] 1 ec_b w3 (HR2.out.below hb3) (fun k hk => by have := HB3.out.size; omega) (by simp) (by decide)
 have HA2 := Lib.hid HA2
 unfold AddK at HA2
 rw [aw_two, ec_id] at HA2
 clear hb3 HREF
 go_wp2_with fail
 refine HA2.out.mono ?_
 rintro e w4 ⟨rfl, hr4, hc4⟩
 have HR4 := Lib.hid hr4
 have HB4 := Lib.hid (HB3.out.trans (hc4.below HB3.out.size (fun k hk h => by have h2 : w.heap.size ≤ k := h; omega)))
 clear hr4 hc4 HA2
 have HEB : Hid (∀ W, Below w.heap.size w W → EnvO W) := Lib.hid (fun W hb => HE.out.below hb)
 have HZ : Hid (∀ x ∈ awR, x.b.length ≤ 268435456) := Lib.hid (by
  intro x hx
  simp [awR] at hx
  rcases hx with rfl | rfl
  · simp
  · show ec_b.length ≤ _; decide)
 have HGT := Lib.hid (fun W => get_any W w.heap.size [])
 rw [show bk [] = ⟨#[]⟩ from rfl] at HGT
 have HCL : Hid (∀ (W W1 : World) (b1 b2 : Nat) (most : Int), Below w.heap.size w W → RepAt W (fun k => w.heap.size ≤ k) w.heap.size awR → Below W.heap.size W W1 → b1 = W.heap.size → b2 = W.heap.size + 1 → W1.cell? ⟨b1, 0, none⟩ = some (.pointer (some ⟨w.heap.size, 0, none⟩)) → W1.cell? ⟨b2, 0, none⟩ = some (.string ⟨#[]⟩) →
  Calls Tryz.prog 16 #[.func (.func 38) #[] #[.pointer (some ⟨b1, 0, none⟩), .pointer (some ⟨b2, 0, none⟩)], .slice (some ⟨W1.heap.size, 0, none⟩) 1 1, .int .i64 most] (W1.alloc (.cells #[.string (bk ec_d)] 9)) fun e w' =>
   RepAt w' (fun k => w.heap.size ≤ k) w.heap.size awR ∧ Below w.heap.size w w' ∧ ClosAns (closR (withoutK awR []) [ec_d, et_d] [ec_d] most) (W1.alloc (.cells #[.string (bk ec_d)] 9)) w' e) := Lib.hid (fun W W1 b1 b2 most hb hR hb1 e1 e2 k1 k2 => by
  have hs := hb.size
  have hal : Below W1.heap.size W1 (W1.alloc (.cells #[.string (bk ec_d)] 9)) := (Below.refl _ _).alloc (Nat.le_refl _) _
  have hbW1 : Below w.heap.size w W1 := hb.trans (hb1.mono hs)
  have hbA : Below w.heap.size w (W1.alloc (.cells #[.string (bk ec_d)] 9)) := hbW1.trans (hal.mono hbW1.size)
  refine (clos_get HSO.out (B := w.heap.size) (b1 := b1) (b2 := b2) aw_univ ((hR.below hb1).below hal) (by decide) (HEB.out _ hbA) HLT.out hbA.size (by omega) (by omega) ((hal.cell (block_lt k1)).trans k1) ((hal.cell (block_lt k2)).trans k2) HZ.out _ 1 1 [ec_d] most (StrsAt.one W1 ec_d) rfl (by decide) (by intro q hq; simp at hq; subst hq; decide) (by simp)).mono ?_
  rintro e w' ⟨hR', hc', ha⟩
  exact ⟨hR', hbA.trans (hc'.below hbA.size (fun k hk h => by omega)), ha⟩)
 have HCH : Hid (∀ (W W1 : World) (b1 b2 : Nat) (most : Int), Below w.heap.size w W → RepAt W (fun k => w.heap.size ≤ k) w.heap.size awR → Below W.heap.size W W1 → b1 = W.heap.size → b2 = W.heap.size + 1 → W1.cell? ⟨b1, 0, none⟩ = some (.pointer (some ⟨w.heap.size, 0, none⟩)) → W1.cell? ⟨b2, 0, none⟩ = some (.string ⟨#[]⟩) →
  Calls Tryz.prog 20 #[.func (.func 38) #[] #[.pointer (some ⟨b1, 0, none⟩), .pointer (some ⟨b2, 0, none⟩)], .slice (some ⟨W1.heap.size, 0, none⟩) 1 1, .int .i64 most] (W1.alloc (.cells #[.string (bk ec_d)] 9)) fun e w' =>
   Below w.heap.size w w' ∧ e = .returned (.int .i64 (match closR (withoutK awR []) [ec_d, et_d] [ec_d] most with | .error x => x | .ok _ => 0))) := Lib.hid (fun W W1 b1 b2 most hb hR hb1 e1 e2 k1 k2 => by
  have hs := hb.size
  have hal : Below W1.heap.size W1 (W1.alloc (.cells #[.string (bk ec_d)] 9)) := (Below.refl _ _).alloc (Nat.le_refl _) _
  have hbW1 : Below w.heap.size w W1 := hb.trans (hb1.mono hs)
  have hbA : Below w.heap.size w (W1.alloc (.cells #[.string (bk ec_d)] 9)) := hbW1.trans (hal.mono hbW1.size)
  refine (check_get HSO.out (B := w.heap.size) (b1 := b1) (b2 := b2) aw_univ ((hR.below hb1).below hal) (by decide) (HEB.out _ hbA) HLT.out hbA.size (by omega) (by omega) ((hal.cell (block_lt k1)).trans k1) ((hal.cell (block_lt k2)).trans k2) HZ.out _ 1 1 [ec_d] most (StrsAt.one W1 ec_d) rfl (by decide) (by intro q hq; simp at hq; subst hq; decide) (by simp)).mono ?_
  rintro e w' ⟨hR', hc', ha⟩
  exact ⟨hbA.trans (hc'.below hbA.size (fun k hk h => by omega)), ha⟩)
 unfold fnV at HGT
 have H9 := HCL.out
 go_wp2_with fail
 refine (HGT.out w4).mono ?_
 rintro e w5 ⟨rfl, hb5, k51, k52⟩
 have HCL5 := Lib.hid (HCL.out w4 w5 w4.heap.size (w4.heap.size + 1) 9 HB4.out HR4.out hb5 rfl rfl k51 k52)
 rw [aw_clos9] at HCL5
 clear hb5 k51 k52 H9
 go_wp2_with fail
 refine HCL5.out.mono ?_
 rintro e w6 ⟨hr6, hb6, A6, rfl, _⟩
 have HR6 := Lib.hid hr6
 have HB6 := Lib.hid hb6
 clear hr6 hb6 HCL5
 go_wp2_with fail
 refine (HGT.out w6).mono ?_
 rintro e w7 ⟨rfl, hb7, k71, k72⟩
 have HCL7 := Lib.hid (HCL.out w6 w7 w6.heap.size (w6.heap.size + 1) 1 HB6.out HR6.out hb7 rfl rfl k71 k72)
 rw [aw_clos1] at HCL7
 clear hb7 k71 k72
 go_wp2_with fail
 refine HCL7.out.mono ?_
 rintro e w8 ⟨hr8, hb8, rfl⟩
 have HR8 := Lib.hid hr8
 have HB8 := Lib.hid hb8
 clear hr8 hb8 HCL7
 go_wp2_with fail
 refine (HGT.out w8).mono ?_
 rintro e w9 ⟨rfl, hb9, k91, k92⟩
 have HCL9 := Lib.hid (HCH.out w8 w9 w8.heap.size (w8.heap.size + 1) 9 HB8.out HR8.out hb9 rfl rfl k91 k92)
 rw [aw_clos9] at HCL9
 clear hb9 k91 k92
 go_wp2_with fail
 refine HCL9.out.mono ?_
 rintro e w10 ⟨hb10, rfl⟩
 have HB10 := Lib.hid hb10
 clear hb10 HCL9
 go_wp2
 go_ret
 exact ⟨rfl, HB10.out⟩
end Go.Proofs.YtihanglnjghcfaaGreatDoor
namespace Go.Proofs.YtihanglnjghcfaaGreatDoor
open Go.RowKit Go.Maps
set_option linter.unusedVariables false
set_option linter.unusedSimpArgs false

theorem OwnS.new1 (w : World) (base : Nat) (hb : base ≤ w.heap.size) (a : Value) (t : TypeId) : OwnS (w.alloc (.cells #[a] t)) base t 1 (.slice (some ⟨w.heap.size, 0, none⟩) 1 1) 1 [a] :=
 ⟨rfl, .inr ⟨w.heap.size, 0, 1, #[a], rfl, hb, ⟨_, heap_alloc_new w _, .inl (Nat.le_refl _)⟩, Nat.le_refl _, by unfold maxLen; omega, by simp, by simp⟩⟩
/-- A list of texts in memory. -/
def DocS (w : World) (K : Nat → Prop) (A : Option Addr) (c : Nat) (l : List Gid) : Prop :=
 OwnS w 0 9 1 (.slice A l.length c) l.length (strVs l) ∧ ∀ k, Value.ownBlock (.slice A l.length c) = some k → K k
theorem DocS.nil (w : World) (K : Nat → Prop) : DocS w K none 0 [] := ⟨OwnS.nil _ _ _ _, fun k hk => by simp [Value.ownBlock] at hk⟩
theorem DocS.one (w : World) (d : Gid) : DocS (w.alloc (.cells #[.string (bk d)] 9)) (fun k => w.heap.size ≤ k) (some ⟨w.heap.size, 0, none⟩) 1 [d] :=
 ⟨OwnS.new1 w 0 (Nat.zero_le _) _ _, fun k hk => by injection hk with hk; exact Nat.le_of_eq hk⟩
theorem DocS.keep {w w' : World} {K K' S : Nat → Prop} {A : Option Addr} {c : Nat} {l : List Gid} (h : DocS w K A c l) (hc : Chg S w w') (hS : ∀ k, K k → k < w.heap.size → ¬ S k) (hK : ∀ k, K k → k < w.heap.size → K' k) : DocS w' K' A c l :=
 ⟨h.1.chg hc fun k hk => hS k (h.2 k hk) (h.1.lt k hk).2, fun k hk => hK k (h.2 k hk) (h.1.lt k hk).2⟩
theorem DocS.below {w w' : World} {K : Nat → Prop} {A : Option Addr} {c : Nat} {l : List Gid} (h : DocS w K A c l) (hb : Below w.heap.size w w') : DocS w' K A c l :=
 h.keep (S := fun k => w.heap.size ≤ k) (Chg.of_below hb) (fun k _ h1 h2 => by omega) fun k hk _ => hk
theorem DocS.snoc {w w8 : World} {K : Nat → Prop} {A A8 : Option Addr} {c c8 : Nat} {l : List Gid} {x : Gid} (h : DocS w K A c l) (ho : OwnS w8 0 9 1 (.slice A8 (l.length + 1) c8) (l.length + 1) (strVs l ++ [.string (bk x)])) {N : Nat}
 (hh : (Value.slice A8 (l.length + 1) c8).ownBlock = (Value.slice A l.length c).ownBlock ∨ (Value.slice A8 (l.length + 1) c8).ownBlock = some N) (hK : K N) : DocS w8 K A8 c8 (l ++ [x]) := by
 have e1 : (l ++ [x]).length = l.length + 1 := by simp
 have e2 : strVs (l ++ [x]) = strVs l ++ [.string (bk x)] := by unfold strVs; simp
 refine ⟨by rw [e1, e2]; exact ho, fun k hk => ?_⟩
 rw [e1] at hk
 rcases hh with h1 | h1
 · exact h.2 k (h1.symm.trans hk)
 · rw [h1] at hk; injection hk with hk; rw [← hk]; exact hK
theorem DocS.strs {w : World} {K : Nat → Prop} {A : Option Addr} {c : Nat} {l : List Gid} (h : DocS w K A c l) : StrsAt w A (l.map bk) := h.1.strsAt
theorem DocS.cell {w : World} {K : Nat → Prop} {A : Option Addr} {c i : Nat} {l : List Gid} {x : Gid} (h : DocS w K A c l) (hx : l[i]? = some x) :
 ∃ b o, A = some ⟨b, o, none⟩ ∧ b < w.heap.size ∧ w.cell? ⟨b, o + i, none⟩ = some (.string (bk x)) := by
 obtain ⟨b, o, h1, h2, h3⟩ := h.strs (by rw [List.length_map]; exact Nat.lt_of_le_of_lt (Nat.zero_le i) (List.getElem?_eq_some_iff.1 hx).1)
 exact ⟨b, o, h1, h2, h3 i (bk x) (by rw [List.getElem?_map, hx]; rfl)⟩
section
variable {G : Gid → Option Gob} {most : Int} {a : Gid} {n i : Nat} {l : List Gid}
end
end Go.Proofs.YtihanglnjghcfaaGreatDoor
namespace Go.Proofs.YtihanglnjghcfaaGreatDoor
open Go.RowKit Go.Maps
set_option linter.unusedVariables false
set_option linter.unusedSimpArgs false

theorem addG_ids2 (l : List Git) (k : Glk) : (addG l k).1.map (·.id) = if k.id ∈ l.map (·.id) then l.map (·.id) else l.map (·.id) ++ [k.id] := by
 unfold addG
 cases hat : atG l k.id with
 | none =>
  rw [if_neg (fun h => by have := atG_mem.2 h; rw [hat] at this; cases this)]
  simp
 | some i =>
  rw [if_pos (atG_mem.1 (by rw [hat]; rfl))]
  dsimp only
  split
  · rw [modify_ids]
  · rfl
theorem linksW_easy : ∀ (ks : List Glk) (l : List Git), (linksW true l ks).1.map (·.id) = parG (l.map (·.id)) (ks.map (·.id))
 | [], l => rfl
 | k :: ks, l => by
  have e : linksW true l (k :: ks) = linksW true (addG l k).1 ks := by
   conv => lhs; unfold linksW
   rw [if_neg (by simp)]
  have e2 : parG (l.map (·.id)) ((k :: ks).map (·.id)) = parG (if k.id ∈ l.map (·.id) then l.map (·.id) else l.map (·.id) ++ [k.id]) (ks.map (·.id)) := rfl
  rw [e, linksW_easy ks, addG_ids2, e2]
theorem look_easy {G : Gid → Option Gob} {l : List Git} {i : Nat} {d : Gid} (h : (l.map (·.id))[i]? = some d) : (lookW true G (l.modify i fun y => ⟨y.id, 0⟩) i).1.map (·.id) = thStep G (l.map (·.id)) d := by
 rw [List.getElem?_map] at h
 obtain ⟨x, hx, rfl⟩ := Option.map_eq_some_iff.1 h
 have hm : (l.modify i fun y => (⟨y.id, 0⟩ : Git))[i]? = some ⟨x.id, 0⟩ := by rw [List.getElem?_modify, hx]; simp
 unfold lookW thStep
 rw [hm]
 dsimp only
 cases hg : G x.id with
 | none => dsimp only; rw [modify_ids]
 | some o =>
  dsimp only
  cases hk : o.lk with
  | none =>
   dsimp only
   rw [modify_ids, show idsG o = [] by unfold idsG; rw [hk]]; rfl
  | some ks =>
   dsimp only
   rw [if_neg (by simp), linksW_easy, modify_ids, modify_ids, show idsG o = ks.map (·.id) by unfold idsG; rw [hk]]
/-- The program's walk from place i on ends with such a list. -/
inductive ThRun (G : Gid → Option Gob) : Nat → List Gid → List Gid → Prop
 | done {i : Nat} {L : List Gid} (h : L.length ≤ i) : ThRun G i L L
 | step {i : Nat} {L M : List Gid} {d : Gid} (h : L[i]? = some d) (n : ThRun G (i + 1) (thStep G L d) M) : ThRun G i L M
/-- The document's. -/
inductive ThRunD (G : Gid → Option Gob) : Nat → List Gid → List Gid → Prop
 | done {i : Nat} {L : List Gid} (h : L.length ≤ i) : ThRunD G i L L
 | step {i : Nat} {L M : List Gid} {d : Gid} (h : L[i]? = some d) (n : ThRunD G (i + 1) (thStepD G L d) M) : ThRunD G i L M
theorem ThRunD.one {G : Gid → Option Gob} {i : Nat} {L M M' : List Gid} (h : ThRunD G i L M) (h' : ThRunD G i L M') : M = M' := by
 induction h generalizing M' with
 | done hl =>
  cases h' with
  | done => rfl
  | step hx _ => rw [List.getElem?_eq_none hl] at hx; cases hx
 | step hx _ ih =>
  cases h' with
  | done hl => rw [List.getElem?_eq_none hl] at hx; cases hx
  | step hy n =>
   rw [hx] at hy
   injection hy with hy
   subst hy
   exact ih n
theorem ThRun.nodup {G : Gid → Option Gob} {i : Nat} {L M : List Gid} (h : ThRun G i L M) (hn : L.Nodup) : M.Nodup := by
 induction h with
 | done => exact hn
 | step hx _ ih =>
  refine ih ?_
  unfold thStep
  split
  · exact hn
  · exact parG_nodup _ _ hn
theorem ThRun.filter {G : Gid → Option Gob} {i : Nat} {L M : List Gid} (h : ThRun G i L M) : ThRunD G ((L.take i).filter (thereB G)).length (L.filter (thereB G)) (M.filter (thereB G)) := by
 induction h with
 | done hl => exact .done (by rw [List.take_of_length_le hl]; exact Nat.le_refl _)
 | @step i L M d hx _ ih =>
  obtain ⟨t, ht⟩ : ∃ t, thStep G L d = L ++ t := by
   unfold thStep
   split
   · exact ⟨[], by simp⟩
   · exact parG_pre _ _
  have hil : i < L.length := (List.getElem?_eq_some_iff.1 hx).1
  have htk : (thStep G L d).take (i + 1) = L.take i ++ [d] := by
   rw [ht, List.take_append_of_le_length (by omega), List.take_add_one, hx]; rfl
  rw [htk, List.filter_append] at ih
  cases hd : thereB G d with
  | true =>
   have h1 : [d].filter (thereB G) = [d] := by simp [hd]
   rw [h1, List.length_append, thStep_filter] at ih
   refine .step ?_ ih
   have hL : L = L.take i ++ d :: L.drop (i + 1) := by
    have h2 : L.drop i = d :: L.drop (i + 1) := by rw [List.drop_eq_getElem_cons hil, (List.getElem?_eq_some_iff.1 hx).2]
    rw [← h2, List.take_append_drop]
   have hf : L.filter (thereB G) = (L.take i).filter (thereB G) ++ d :: (L.drop (i + 1)).filter (thereB G) := by
    conv => lhs; rw [hL]
    rw [List.filter_append, List.filter_cons_of_pos (by simp [hd])]
   rw [hf, List.getElem?_append_right (Nat.le_refl _), Nat.sub_self]
   rfl
  | false =>
   have h1 : [d].filter (thereB G) = [] := by simp [hd]
   rw [h1, List.append_nil, thStep_not G L d hd] at ih
   exact ih
/-- What the document finds is what the program finds of what is there. -/
theorem there_same {G : Gid → Option Gob} {rs M M' : List Gid} (h : ThRun G 0 (parG [] rs) M) (h' : ThRunD G 0 (parG [] (rs.filter (thereB G))) M') : M' = M.filter (thereB G) := by
 have h2 := h.filter
 rw [List.take_zero, parG_filter] at h2
 exact h'.one h2
theorem rootsP_ids : ∀ (rs : List Gid) (l : List Git), (rootsP l rs).map (·.id) = parG (l.map (·.id)) rs
 | [], l => rfl
 | r :: rs, l => by
  have e : rootsP l (r :: rs) = rootsP (addG l ⟨r, 0⟩).1 rs := rfl
  have e2 : parG (l.map (·.id)) (r :: rs) = parG (if r ∈ l.map (·.id) then l.map (·.id) else l.map (·.id) ++ [r]) rs := rfl
  rw [e, rootsP_ids rs, addG_ids2, e2]
theorem sub_modify {U : List Gid} {l : List Git} (h : SubU U l) (i : Nat) (k : Int) : SubU U (l.modify i fun y => ⟨y.id, k⟩) := fun x hx => by
 have hm : x.id ∈ (l.modify i fun y => (⟨y.id, k⟩ : Git)).map (·.id) := List.mem_map_of_mem hx
 rw [modify_ids] at hm
 obtain ⟨z, hz, he⟩ := List.mem_map.1 hm
 rw [← he]; exact h z hz
theorem one_modify {l : List Git} (h : OneG l) (i : Nat) (k : Int) : OneG (l.modify i fun y => ⟨y.id, k⟩) := by
 unfold OneG at *
 rw [modify_ids]; exact h
theorem setEasy {w : World} {K : Nat → Prop} {g : Nat} {get : Value} {easy : Bool} {l : List Git} (h : WalkAt w K g get easy l) (b : Bool) : WalkAt (w.setCell ⟨g, 3, none⟩ (.bool b)) K g get b l := by
 obtain ⟨hg, A, c, m, n, hce, how, hoK, hmp, hnl, hmK⟩ := h
 refine ⟨hg, A, c, m, n, ?_, how.setFar (how.ne_cel hce (by decide)) _, hoK, hmp.setCell (fun e => hce.ne_map hmp e.symm) _, hnl, hmK⟩
 refine (hce.set 3 _).congr fun j hj => ?_
 have : j = 0 ∨ j = 1 ∨ j = 2 ∨ j = 3 := by omega
 rcases this with rfl | rfl | rfl | rfl <;> rfl
theorem setGet {w : World} {K : Nat → Prop} {g : Nat} {get : Value} {easy : Bool} {l : List Git} (h : WalkAt w K g get easy l) (v : Value) : WalkAt (w.setCell ⟨g, 0, none⟩ v) K g v easy l := by
 obtain ⟨hg, A, c, m, n, hce, how, hoK, hmp, hnl, hmK⟩ := h
 refine ⟨hg, A, c, m, n, ?_, how.setFar (how.ne_cel hce (by decide)) _, hoK, hmp.setCell (fun e => hce.ne_map hmp e.symm) _, hnl, hmK⟩
 refine (hce.set 0 _).congr fun j hj => ?_
 have : j = 0 ∨ j = 1 ∨ j = 2 ∨ j = 3 := by omega
 rcases this with rfl | rfl | rfl | rfl <;> rfl
theorem WalkAt.cells {w : World} {K : Nat → Prop} {g : Nat} {get : Value} {easy : Bool} {l : List Git} (h : WalkAt w K g get easy l) : w.cell? ⟨g, 0, none⟩ = some get ∧ w.cell? ⟨g, 3, none⟩ = some (.bool easy) ∧ w.frozen? ⟨g, 0, none⟩ = false ∧ w.frozen? ⟨g, 3, none⟩ = false ∧ g < w.heap.size := by
 obtain ⟨_, _, _, _, _, hce, _⟩ := h
 exact ⟨hce.cell 0 (by decide), hce.cell 3 (by decide), hce.frozen 0, hce.frozen 3, hce.blk⟩
/-- An item's kind set anew. -/
theorem WalkAt.kind {w : World} {K : Nat → Prop} {g i : Nat} {get : Value} {easy : Bool} {l : List Git} {x : Git} (h : WalkAt w K g get easy l) (hx : l[i]? = some x) (u : Int) :
 ∃ b o c, w.cell? ⟨g, 1, none⟩ = some (.slice (some ⟨b, o, none⟩) l.length c) ∧ w.cell? ⟨b, o + i * 2 + 1, none⟩ = some (.int .i64 x.kd) ∧ w.frozen? ⟨b, o + i * 2 + 1, none⟩ = false ∧
  WalkAt (w.setCell ⟨b, o + i * 2 + 1, none⟩ (.int .i64 u)) K g get easy (l.modify i fun y => ⟨y.id, u⟩) ∧ Chg K w (w.setCell ⟨b, o + i * 2 + 1, none⟩ (.int .i64 u)) := by
 obtain ⟨hg, A, c, m, n, hce, how, hoK, hmp, hnl, hmK⟩ := h
 obtain ⟨b, o, rfl, _, hbl, hcl⟩ := OwnS.flat itV_len (by decide) how hx
 have hil : i < l.length := (List.getElem?_eq_some_iff.1 hx).1
 have hfl := flat_len 2 itV itV_len l
 have hfr := how.free (j := i * 2 + 1) (by rw [hfl]; omega)
 rw [← Nat.add_assoc] at hfr
 exact ⟨b, o, c, hce.cell 1 (by decide), hcl 1 (by decide), hfr.1, setKind hg hce how hoK hmp hnl hmK hx u⟩
set_option maxRecDepth 100000 in
set_option maxHeartbeats 2000000 in
theorem beginN_any (A : Option Addr) (n c : Nat) (rs : List Gid) (w : World) (hR : StrsAt w A (rs.map bk)) (hn : rs.length = n) (hl : n ≤ 268435456) (hs : ∀ r ∈ rs, r.length ≤ 1099511627776) :
 Calls Tryz.prog 35 #[.nilFunc, .slice A n c] w fun e w' => Below w.heap.size w w' ∧ ∃ g, e = .returned (.pointer (some ⟨g, 0, none⟩)) ∧ WalkAt w' (fun k => w.heap.size ≤ k) g (.nilFunc) false (rootsP [] rs) := by
 have HR := Lib.hid hR
 have HS := Lib.hid hs
 have HL := Lib.hid hl
 have HN := Lib.hid hn
 clear hR hs hl hn
 have hmm := @run_makeMap Tryz.prog
 go_enter Tryz.func35, Tryz.ntmps35
 go_upto_region 2 with (fail)
 have hW0 : WalkAt ((w.alloc (.map #[] 0)).alloc (.cells #[.nilFunc, .slice none 0 0, .map (some w.heap.size), .bool false] 84)) (fun k => w.heap.size ≤ k) (w.heap.size + 1) (.nilFunc) false [] := by
  have hsz : (w.alloc (.map #[] 0)).heap.size = w.heap.size + 1 := by simp
  have hm := MapI.new w
  have hml := hm.lt
  have hm2 := hm.same (w' := (w.alloc (.map #[] 0)).alloc (.cells #[.nilFunc, .slice none 0 0, .map (some w.heap.size), .bool false] 84)) (heap_alloc_old _ _ hml)
  have hc := Cel.new (w.alloc (.map #[] 0)) 84 #[.nilFunc, .slice none 0 0, .map (some w.heap.size), .bool false] (walF (.nilFunc) (.slice none 0 0) (.map (some w.heap.size)) (.bool false)) (fun i hi => by
   have : i = 0 ∨ i = 1 ∨ i = 2 ∨ i = 3 := by simp at hi; omega
   rcases this with rfl | rfl | rfl | rfl <;> rfl)
  rw [hsz] at hc
  exact ⟨Nat.le_succ _, none, 0, w.heap.size, 0, hc, OwnS.nil _ _ _ _, fun k hk => by simp [Value.ownBlock] at hk, hm2, Nat.le_refl _, Nat.le_refl _⟩
 have hB0 : Below w.heap.size w ((w.alloc (.map #[] 0)).alloc (.cells #[.nilFunc, .slice none 0 0, .map (some w.heap.size), .bool false] 84)) := ((Below.refl _ _).alloc (Nat.le_refl _) _).alloc (by simp) _
 generalize (w.alloc (.map #[] 0)).alloc (.cells #[.nilFunc, .slice none 0 0, .map (some w.heap.size), .bool false] 84) = w1 at *
 generalize hg : w.heap.size + 1 = g at *
 have HW0 := Lib.hid hW0
 have HB0 := Lib.hid hB0
 clear hW0 hB0 hmm hg
 go_wp2
 go_loopw [14] (fun vn wr => ∃ j : Nat, vn = .int .i64 j ∧ j ≤ n ∧ WalkAt wr (fun k => w.heap.size ≤ k) g (.nilFunc) false (rootsP [] (rs.take j)) ∧ Below w.heap.size w wr) (fun vn _ => n - (intOf vn).toNat)
 case atStart => exact ⟨0, rfl, by omega, HW0.out, HB0.out⟩
 case round =>
  obtain ⟨j, rfl, hj, hw, hb⟩ := hrel
  have HW := Lib.hid hw
  have HB := Lib.hid hb
  clear hw hb
  by_cases hlt : j < n
  · have d1 : decide ((j : Int) < (n : Int)) = true := decide_eq_true (by omega)
    have d1' : decide (j < n) = true := decide_eq_true hlt
    have hjr : j < rs.length := by rw [HN.out]; exact hlt
    obtain ⟨b, o, hA, hbl, hcl⟩ := HR.out (by rw [List.length_map]; omega)
    subst hA
    have hc0 := hcl j (bk rs[j]) (by rw [List.getElem?_map, List.getElem?_eq_getElem hjr]; rfl)
    have hrs := HS.out rs[j] (List.getElem_mem hjr)
    have HTK : Hid (rootsP [] (rs.take (j + 1)) = (addG (rootsP [] (rs.take j)) ⟨rs[j], 0⟩).1) := Lib.hid (by rw [List.take_add_one, List.getElem?_eq_getElem hjr]; exact rootsP_snoc _ _ _)
    have hln := rootsP_len (rs.take j) []
    have HADD := Lib.hid (add_any _ g _ false (rootsP [] (rs.take j)) ⟨rs[j], 0⟩ wr HW.out (fun k hk => by have := HB.out.size; omega) (by have h1 := HL.out; simp only [List.length_take, List.length_nil] at hln; omega) hrs)
    dsimp only at HADD
    generalize rs[j] = r at *
    have f0 := (HB.out.cell (p := ⟨b, o + j, none⟩) hbl).trans hc0
    have hle : ¬ (n : Int) ≤ j := by omega
    have hn0 : (0 : Int) ≤ j := by omega
    have hnl : (j : Int) < n := by omega
    have hw1 : IntKind.i64.wrap ((j : Int) + 1) = (j : Int) + 1 := IntWalk.i64_in _ (by have := HL.out; omega)
    clear hcl hc0 hrs hln hbl hjr
    go_wp2_with fail
    refine HADD.out.mono ?_
    rintro e w2 ⟨rfl, hw2, hc2⟩
    have HW2 := Lib.hid hw2
    have HB2 := Lib.hid (HB.out.trans (hc2.below HB.out.size (fun k hk h => by omega)))
    clear hw2 hc2
    go_wp2
    go_roundw
    case rel => exact ⟨j + 1, rfl, hlt, by rw [HTK.out]; exact HW2.out, HB2.out⟩
    case measure => simp [intOf]; omega
  · have d1 : decide ((j : Int) < (n : Int)) = false := decide_eq_false (by omega)
    have d1' : decide (j < n) = false := decide_eq_false hlt
    have HTK : Hid (rs.take j = rs) := Lib.hid (List.take_of_length_le (by have := HN.out; omega))
    go_wp2
    go_ret
    exact ⟨HB.out, g, rfl, by have := HW.out; rwa [HTK.out] at this⟩
end Go.Proofs.YtihanglnjghcfaaGreatDoor
