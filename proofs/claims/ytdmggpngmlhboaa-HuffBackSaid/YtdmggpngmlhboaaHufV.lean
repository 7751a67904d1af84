/- The writer of bits: Put of one bit, Code, Bytes. -/
import Derived.Test.YtdmggpngmlhboaaHufU
import Derived.Test.YtdmggpngmlhboaaPh
import Derived.Deep.QuietTactic
import Derived.BigQuiet
namespace Go.Proofs.Ytdmggpngmlhboaa
open Go.RowKit
set_option linter.unusedVariables false
set_option linter.unusedSimpArgs false

def wF (v : Value) (a b : Nat) (i : Nat) : Value := if i = 0 then v else if i = 1 then .int .u64 a else .int .i64 b
/-- A writer in memory: whole bytes, and bits that are no byte yet. -/
structure WRep (g : Nat) (w : World) (B0 : Nat) (v : Value) (B r : List Nat) : Prop where
  cel : Cel w g 42 3 (wF v (valB r) r.length)
  row : OwnS w B0 5 1 v B.length (B.map fun (x : Nat) => Value.int .u8 (x : Int))
/-- It holds the bits ws. -/
def WH (g : Nat) (w : World) (B0 : Nat) (v : Value) (ws : List Nat) : Prop := ∃ B r, WRep g w B0 v B r ∧ Holds B r ws
/-- What has been written leaves. -/
structure WLeft (g : Nat) (w : World) (v : Value) (w' : World) (v' : Value) : Prop where
  chg : Chg (fun k => k = g ∨ v.ownBlock = some k) w w'
  own : ∀ k, v'.ownBlock = some k → k < w.heap.size → v.ownBlock = some k
theorem WLeft.refl (g : Nat) (w : World) (v : Value) : WLeft g w v w v := ⟨Chg.refl _ _, fun _ h _ => h⟩
theorem WLeft.trans {g : Nat} {w w1 w2 : World} {v v1 v2 : Value} (h : WLeft g w v w1 v1) (k : WLeft g w1 v1 w2 v2) : WLeft g w v w2 v2 :=
  ⟨h.chg.trans k.chg (fun i hi hs => hs.elim .inl fun hs => .inr (h.own i hs hi)), fun i hi hl => h.own i (k.own i hi (Nat.lt_of_lt_of_le hl h.chg.size)) hl⟩
def PutPost (g B0 : Nat) (w : World) (v : Value) (ws : List Nat) (e : Ending) (w' : World) : Prop :=
  e = .returned (.tuple #[]) ∧ ∃ v', WH g w' B0 v' ws ∧ WLeft g w v w' v'
theorem u64_and1 (x : Nat) (hx : x < 4294967296) : bits .and .u64 (x : Int) 1 = ((x % 2 : Nat) : Int) := by
  have h1 : (BitVec.ofInt 64 1).toNat = 2 ^ 1 - 1 := by decide
  have key : (BitVec.ofInt 64 (x : Int) &&& BitVec.ofInt 64 1).toNat = x % 2 := by
    rw [BitVec.toNat_and, BitVec.toNat_ofInt, h1, Nat.and_two_pow_sub_one_eq_mod]
    omega
  show IntKind.u64.wrap ((BitVec.ofInt 64 (x : Int) &&& BitVec.ofInt 64 1).toNat : Nat) = _
  rw [key]
  show ((x % 2 : Nat) : Int) % 18446744073709551616 = _
  omega
theorem u64_or (a b n : Nat) (ha : a < 2 ^ n) (hn : n ≤ 7) (hb : b ≤ 1) : bits .or .u64 (a : Int) ((b * 2 ^ n : Nat) : Int) = ((a + b * 2 ^ n : Nat) : Int) := by
  have hp : 2 ^ n ≤ 2 ^ 7 := Nat.pow_le_pow_right (by decide) hn
  have hb2 : b * 2 ^ n ≤ 1 * 2 ^ n := Nat.mul_le_mul_right _ hb
  have key : (BitVec.ofInt 64 (a : Int) ||| BitVec.ofInt 64 ((b * 2 ^ n : Nat) : Int)).toNat = a + b * 2 ^ n := by
    rw [BitVec.toNat_or, BitVec.toNat_ofInt, BitVec.toNat_ofInt]
    rw [show (((a : Int) % ((2 ^ 64 : Nat) : Int)).toNat) = a by omega, show ((((b * 2 ^ n : Nat) : Int) % ((2 ^ 64 : Nat) : Int)).toNat) = b * 2 ^ n by omega, Nat.or_comm, Nat.mul_comm b, ← Nat.two_pow_add_eq_or_of_lt ha]
    omega
  show IntKind.u64.wrap ((BitVec.ofInt 64 (a : Int) ||| BitVec.ofInt 64 ((b * 2 ^ n : Nat) : Int)).toNat : Nat) = _
  rw [key]
  show ((a + b * 2 ^ n : Nat) : Int) % 18446744073709551616 = _
  omega
/-- One store behind the reads. -/
def ISet (w0 : World) (a : Addr) (v : Value) : List Value → World → Prop
  | [], w => w = w0
  | _, w => w = w0.setCell a v
theorem wF_set {g : Nat} {w : World} {v : Value} {a b : Nat} (h : Cel w g 42 3 (wF v a b)) :
    (∀ n : Nat, Cel (w.setCell ⟨g, 1, none⟩ (.int .u64 n)) g 42 3 (wF v n b)) ∧ (∀ n : Nat, Cel (w.setCell ⟨g, 2, none⟩ (.int .i64 n)) g 42 3 (wF v a n)) ∧ ∀ u, Cel (w.setCell ⟨g, 0, none⟩ u) g 42 3 (wF u a b) := by
  refine ⟨fun n => (h.set 1 _).congr (fun i hi => ?_), fun n => (h.set 2 _).congr (fun i hi => ?_), fun u => (h.set 0 _).congr (fun i hi => ?_)⟩ <;>
  · rcases i with _ | _ | _ | i
    · rfl
    · rfl
    · rfl
    · omega
/-- Between the stores of a writer: its cells, its row, and what has changed since w0. -/
structure WMid (g B0 : Nat) (w0 : World) (v0 : Value) (w : World) (v : Value) (n : Nat) (xs : List Value) (a b : Nat) : Prop where
  cel : Cel w g 42 3 (wF v a b)
  row : OwnS w B0 5 1 v n xs
  left : WLeft g w0 v0 w v
theorem WMid.ne {g B0 : Nat} {w0 : World} {v0 : Value} {w : World} {v : Value} {n : Nat} {xs : List Value} {a b : Nat} (h : WMid g B0 w0 v0 w v n xs a b) : v.ownBlock ≠ some g := h.row.ne_cel h.cel (by decide)
theorem WMid.drew {g B0 : Nat} {w0 : World} {v0 : Value} {w : World} {v : Value} {n : Nat} {xs : List Value} {a b : Nat} (h : WMid g B0 w0 v0 w v n xs a b) : WMid g B0 w0 v0 w.drew v n xs a b :=
  ⟨h.cel.drew, h.row.drew, h.left.chg.drew, h.left.own⟩
theorem WMid.set1 {g B0 : Nat} {w0 : World} {v0 : Value} {w : World} {v : Value} {n : Nat} {xs : List Value} {a b : Nat} (h : WMid g B0 w0 v0 w v n xs a b) (m : Nat) : WMid g B0 w0 v0 (w.setCell ⟨g, 1, none⟩ (.int .u64 m)) v n xs m b :=
  ⟨(wF_set h.cel).1 m, h.row.setFar h.ne _, h.left.chg.setCell (.inl (.inl rfl)) _, h.left.own⟩
theorem WMid.set2 {g B0 : Nat} {w0 : World} {v0 : Value} {w : World} {v : Value} {n : Nat} {xs : List Value} {a b : Nat} (h : WMid g B0 w0 v0 w v n xs a b) (m : Nat) : WMid g B0 w0 v0 (w.setCell ⟨g, 2, none⟩ (.int .i64 m)) v n xs a m :=
  ⟨(wF_set h.cel).2.1 m, h.row.setFar h.ne _, h.left.chg.setCell (.inl (.inl rfl)) _, h.left.own⟩
/-- The row is grown; the writer does not know of it yet. -/
structure WGrew (g B0 : Nat) (w0 : World) (v0 : Value) (w : World) (v v' : Value) (n : Nat) (xs : List Value) (a b : Nat) : Prop where
  cel : Cel w g 42 3 (wF v a b)
  row : OwnS w B0 5 1 v' n xs
  left : WLeft g w0 v0 w v'
theorem WMid.grew {g B0 : Nat} {w0 : World} {v0 : Value} {w w9 : World} {A A9 : Option Addr} {c c9 n m : Nat} {xs ys : List Value} {a b : Nat} {o : Obj} (h : WMid g B0 w0 v0 w (.slice A n c) n xs a b) (hg : (w.alloc o).grownBy w9 (Value.slice A n c).ownBlock) (h9 : OwnS w9 B0 5 1 (.slice A9 m c9) m ys)
    (hw : (Value.slice A9 m c9).ownBlock = (Value.slice A n c).ownBlock ∨ (Value.slice A9 m c9).ownBlock = some (w.alloc o).heap.size) : WGrew g B0 w0 v0 w9 (.slice A n c) (.slice A9 m c9) m ys a b := by
  refine ⟨(h.cel.alloc o).grown hg h.ne, h9, (WLeft.trans (w1 := w) (v1 := .slice A n c) h.left ⟨?_, ?_⟩)⟩
  · exact ((Chg.refl (fun k => k = g ∨ (Value.slice A n c).ownBlock = some k) w).alloc o).trans (Chg.of_grown (S := fun k => (Value.slice A n c).ownBlock = some k) hg (fun _ h => h)) (fun _ _ h => .inr h)
  · intro k hk hl
    rcases hw with hw | hw
    · rw [← hw]; exact hk
    · rw [hw] at hk
      injection hk with hk
      subst hk
      rw [show (w.alloc o).heap.size = w.heap.size + 1 by simp] at hl
      omega
theorem WGrew.told {g B0 : Nat} {w0 : World} {v0 : Value} {w : World} {v v' : Value} {n : Nat} {xs : List Value} {a b : Nat} (h : WGrew g B0 w0 v0 w v v' n xs a b) : WMid g B0 w0 v0 (w.setCell ⟨g, 0, none⟩ v') v' n xs a b :=
  ⟨(wF_set h.cel).2.2 v', h.row.setFar (h.row.ne_cel h.cel (by decide)) _, h.left.chg.setCell (.inl (.inl rfl)) _, h.left.own⟩
theorem WMid.cells {g B0 : Nat} {w0 : World} {v0 : Value} {w : World} {v : Value} {n : Nat} {xs : List Value} {a b : Nat} (h : WMid g B0 w0 v0 w v n xs a b) :
    w.cell? ⟨g, 0, none⟩ = some v ∧ w.cell? ⟨g, 1, none⟩ = some (.int .u64 a) ∧ w.cell? ⟨g, 2, none⟩ = some (.int .i64 b) ∧ (w.frozen? ⟨g, 0, none⟩ = false ∧ w.frozen? ⟨g, 1, none⟩ = false ∧ w.frozen? ⟨g, 2, none⟩ = false) :=
  ⟨h.cel.cell 0 (by decide), h.cel.cell 1 (by decide), h.cel.cell 2 (by decide), h.cel.frozen 0, h.cel.frozen 1, h.cel.frozen 2⟩
/-- One more byte is put behind the row. -/
def IByte (g B0 : Nat) (w0 : World) (v0 : Value) (w2 : World) (v : Value) (n : Nat) (xs : List Value) (a b x : Nat) : List Value → World → Prop
  | [], w => w = w2
  | [_], w => w = w2.alloc (.cells #[.int .u8 (x : Int)] 5)
  | [_, u], w => ∃ A c, u = .slice A (n + 1) c ∧ WGrew g B0 w0 v0 w v (.slice A (n + 1) c) (n + 1) (xs ++ [.int .u8 (x : Int)]) a b
  | _, w => ∃ A c, WMid g B0 w0 v0 w (.slice A (n + 1) c) (n + 1) (xs ++ [.int .u8 (x : Int)]) a b
theorem IByte.cell0 {g B0 : Nat} {w0 : World} {v0 : Value} {w2 w : World} {v X : Value} {n : Nat} {xs : List Value} {a b x k p q r : Nat} {us : Nat → Value} (hk : k ≤ 1) (h : IByte g B0 w0 v0 w2 v n xs a b x (List.map us (List.take k [p, q, r])) w) (hc : w2.cell? ⟨g, 0, none⟩ = some X) (hg : g < w2.heap.size) : w.cell? ⟨g, 0, none⟩ = some X := by
  rcases k with _ | _ | k
  · have hw : w = w2 := h
    rw [hw]; exact hc
  · have hw : w = w2.alloc (.cells #[.int .u8 (x : Int)] 5) := h
    rw [hw]
    exact (((Below.refl w2.heap.size w2).alloc (Nat.le_refl _) (.cells #[.int .u8 (x : Int)] 5)).cell (p := ⟨g, 0, none⟩) hg).trans hc
  · omega
set_option maxRecDepth 100000 in
set_option maxHeartbeats 4000000 in
theorem put_any (g B0 x : Nat) (w : World) (v : Value) (B r ws : List Nat) (h : WRep g w B0 v B r) (hh : Holds B r ws) (hB : B.length ≤ 1000000) (hx : x < 4294967296) (hB0 : B0 ≤ w.heap.size) :
    Calls Try.prog 39 #[.pointer (some ⟨g, 0, none⟩), .int .u32 x, .int .i64 1] w (PutPost g B0 w v (ws ++ [x % 2])) := by
  obtain ⟨i0, hi, hz0, hz1, hz2⟩ := info_parts Try.info_u8
  have hr8 := hh.r8
  have hv := valB_lt r hh.r01
  have hxu := u64_and1 x hx
  have hb1 : x % 2 ≤ 1 := by omega
  have hor := u64_or (valB r) (x % 2) r.length hv (by omega) hb1
  rw [← valB_snoc] at hor
  have hp7 : 2 ^ r.length ≤ 128 := (Nat.pow_le_pow_right (n := 2) (by decide) (by omega) : 2 ^ r.length ≤ 2 ^ 7)
  go_enter Try.func39, Try.ntmps39
  obtain ⟨b, hb⟩ : ∃ b, x % 2 = b := ⟨_, rfl⟩
  rw [hb] at hxu hb1 hor ⊢
  obtain ⟨lr, hlr⟩ : ∃ n, r.length = n := ⟨_, rfl⟩
  rw [hlr] at hor hp7 hr8 hv
  obtain ⟨A, c, rfl⟩ := h.row.shape
  have c1 := h.cel.cell 1 (by decide)
  have c2 := h.cel.cell 2 (by decide)
  have f1 := h.cel.frozen 1
  have f2 := h.cel.frozen 2
  simp only [wF, hlr] at c1 c2
  have hb2 : b * 2 ^ lr ≤ 1 * 2 ^ lr := Nat.mul_le_mul_right _ hb1
  obtain ⟨sh, hsh⟩ : ∃ s, b * 2 ^ lr = s := ⟨_, rfl⟩
  rw [hsh] at hor hb2
  have hshi : (b : Int) * 2 ^ lr = (sh : Int) := by rw [← hsh]; simp
  obtain ⟨vr, hvr⟩ : ∃ s, valB r = s := ⟨_, rfl⟩
  obtain ⟨vn, hvn⟩ : ∃ s, valB (r ++ [b]) = s := ⟨_, rfl⟩
  rw [hvn, hvr] at hor
  rw [hvr] at c1
  obtain ⟨nB, hnB⟩ : ∃ n, B.length = n := ⟨_, rfl⟩
  have hmid : WMid g B0 w (.slice A nB c) w (.slice A nB c) nB (B.map fun (x : Nat) => Value.int .u8 (x : Int)) vr lr := by
    have h1 := h.cel
    have h2 := h.row
    rw [hvr, hlr, hnB] at h1
    rw [hnB] at h2
    exact ⟨h1, h2, WLeft.refl _ _ _⟩
  rw [hnB] at hB ⊢
  have HNB := Lib.hid hnB
  have HM0 := Lib.hid hmid.drew
  have C1 : Hid (w.drew.cell? ⟨g, 1, none⟩ = some (.int .u64 vr)) := c1
  have C2 : Hid (w.drew.cell? ⟨g, 2, none⟩ = some (.int .i64 lr)) := c2
  have F1 : Hid (w.drew.frozen? ⟨g, 1, none⟩ = false) := f1
  have HH := Lib.hid hh
  have HVR := Lib.hid hvr
  have HVN := Lib.hid hvn
  have HLR := Lib.hid hlr
  have HB := Lib.hid hb
  have hwu : IntKind.u64.wrap (sh : Int) = (sh : Int) := by show (sh : Int) % 18446744073709551616 = _; omega
  have hvn8 : vn < 256 := by
    have h01 : Bits01 (r ++ [b]) := by
      intro x hx
      rcases List.mem_append.1 hx with hx | hx
      · exact hh.r01 x hx
      · rw [List.mem_singleton.1 hx]; exact hb1
    have h9 := valB_lt _ h01
    rw [hvn, List.length_append, hlr] at h9
    have : 2 ^ (lr + 1) ≤ 2 ^ 8 := Nat.pow_le_pow_right (by decide) (by omega)
    have e : (r.length + [b].length) = r.length + 1 := rfl
    simp only [List.length_singleton] at h9
    omega
  clear hvr hvn hb hlr hsh c1 c2 f1 f2 h hh hmid hnB
  go_upto_region 1 with (fail)
  refine wp_region_ph (by kernel_rfl) [18] [.span 0 0, .span 0 0, .span 0 0, .span 0 0, .span 0 0, .span 0 0, .span 0 0, .span 0 0, .span 0 0, .span 0 0, .span 0 0, .span 0 0, .span 0 0, .span 0 0, .span 0 0, .span 0 0, .span 0 0, .span 0 0, .phase 0] [fun z9 => z9 = .pointer (some ⟨g, 0, none⟩), fun z9 => z9 = .pointer (some ⟨g, 0, none⟩), fun z9 => z9 = .pointer (some ⟨g, 1, none⟩), fun z9 => z9 = .int .u64 (vr), fun z9 => z9 = .int .u32 (x), fun z9 => z9 = .int .u64 (x), fun z9 => z9 = .int .i64 (1), fun z9 => z9 = .int .u64 (2), fun z9 => z9 = .int .u64 (1), fun z9 => z9 = .int .u64 (b), fun z9 => z9 = .pointer (some ⟨g, 0, none⟩), fun z9 => z9 = .pointer (some ⟨g, 0, none⟩), fun z9 => z9 = .pointer (some ⟨g, 2, none⟩), fun z9 => z9 = .int .i64 (lr), fun z9 => z9 = .int .u64 (sh), fun z9 => z9 = .int .u64 (vn), fun z9 => z9 = .pointer (some ⟨g, 0, none⟩), fun z9 => z9 = .pointer (some ⟨g, 1, none⟩), fun _ => True] (ISet w.drew ⟨g, 1, none⟩ (.int .u64 vn)) (by kernel_rfl) (by kernel_rfl) (by kernel_rfl) (by kernel_rfl) (by kernel_rfl) (by kernel_rfl) rfl rfl (rfl) ?steps ?done
  case steps =>
    refine ⟨?_, ?_, ?_, ?_, ?_, ?_, ?_, ?_, ?_, ?_, ?_, ?_, ?_, ?_, ?_, ?_, ?_, ?_, ?_, trivial⟩
    · intro us au w1 k0 hlo hhi ha hd hst hI
      obtain rfl : k0 = 0 := by omega
      have q0 := slot_far (t := 0) (v := .pointer (some ⟨g, 0, none⟩)) ha (by kernel_rfl) (by kernel_rfl)
      have p0 := slot_norm q0
      clear ha hd hst
      exact StepI.pure (v := .pointer (some ⟨g, 0, none⟩)) rfl rfl (by go_simp) ⟨rfl, hI⟩
    · intro us au w1 k1 hlo hhi ha hd hst hI
      obtain rfl : k1 = 0 := by omega
      have e0 := hd 0 _ (by kernel_rfl) rfl
      have q9 := slot_at (t := 9) 0 ha (by kernel_rfl) (by kernel_rfl) (by kernel_rfl) e0
      have p9 := slot_norm q9
      clear ha hd hst
      exact StepI.pure (v := .pointer (some ⟨g, 0, none⟩)) rfl rfl (by go_simp) ⟨rfl, hI⟩
    · intro us au w1 k2 hlo hhi ha hd hst hI
      obtain rfl : k2 = 0 := by omega
      have e1 := hd 1 _ (by kernel_rfl) rfl
      have q10 := slot_at (t := 10) 1 ha (by kernel_rfl) (by kernel_rfl) (by kernel_rfl) e1
      have p10 := slot_norm q10
      clear ha hd hst
      exact StepI.pure (v := .pointer (some ⟨g, 1, none⟩)) rfl rfl (by go_simp) ⟨rfl, hI⟩
    · intro us au w1 k3 hlo hhi ha hd hst hI
      obtain rfl : k3 = 0 := by omega
      have e2 := hd 2 _ (by kernel_rfl) rfl
      have q11 := slot_at (t := 11) 2 ha (by kernel_rfl) (by kernel_rfl) (by kernel_rfl) e2
      have p11 := slot_norm q11
      clear ha hd hst
      have c1 := (congrArg (fun w => World.cell? w ⟨g, 1, none⟩) (show w1 = _ from hI)).trans C1.out
      exact StepI.pure (v := .int .u64 (vr)) rfl rfl (by go_simp) ⟨rfl, hI⟩
    · intro us au w1 k4 hlo hhi ha hd hst hI
      obtain rfl : k4 = 0 := by omega
      have q1 := slot_far (t := 1) (v := .int .u32 (x)) ha (by kernel_rfl) (by kernel_rfl)
      have p1 := slot_norm q1
      clear ha hd hst
      exact StepI.pure (v := .int .u32 (x)) rfl rfl (by go_simp) ⟨rfl, hI⟩
    · intro us au w1 k5 hlo hhi ha hd hst hI
      obtain rfl : k5 = 0 := by omega
      have e4 := hd 4 _ (by kernel_rfl) rfl
      have q13 := slot_at (t := 13) 4 ha (by kernel_rfl) (by kernel_rfl) (by kernel_rfl) e4
      have p13 := slot_norm q13
      clear ha hd hst
      exact StepI.pure (v := .int .u64 (x)) rfl rfl (by go_simp; show (x : Int) % 18446744073709551616 = _; omega) ⟨rfl, hI⟩
    · intro us au w1 k6 hlo hhi ha hd hst hI
      obtain rfl : k6 = 0 := by omega
      have q2 := slot_far (t := 2) (v := .int .i64 (1)) ha (by kernel_rfl) (by kernel_rfl)
      have p2 := slot_norm q2
      clear ha hd hst
      exact StepI.pure (v := .int .i64 (1)) rfl rfl (by go_simp) ⟨rfl, hI⟩
    · intro us au w1 k7 hlo hhi ha hd hst hI
      obtain rfl : k7 = 0 := by omega
      have e6 := hd 6 _ (by kernel_rfl) rfl
      have q15 := slot_at (t := 15) 6 ha (by kernel_rfl) (by kernel_rfl) (by kernel_rfl) e6
      have p15 := slot_norm q15
      clear ha hd hst
      exact StepI.pure (v := .int .u64 (2)) rfl rfl (by go_simp; rfl) ⟨rfl, hI⟩
    · intro us au w1 k8 hlo hhi ha hd hst hI
      obtain rfl : k8 = 0 := by omega
      have e7 := hd 7 _ (by kernel_rfl) rfl
      have q16 := slot_at (t := 16) 7 ha (by kernel_rfl) (by kernel_rfl) (by kernel_rfl) e7
      have p16 := slot_norm q16
      clear ha hd hst
      exact StepI.pure (v := .int .u64 (1)) rfl rfl (by go_simp; rfl) ⟨rfl, hI⟩
    · intro us au w1 k9 hlo hhi ha hd hst hI
      obtain rfl : k9 = 0 := by omega
      have e5 := hd 5 _ (by kernel_rfl) rfl
      have e8 := hd 8 _ (by kernel_rfl) rfl
      have q14 := slot_at (t := 14) 5 ha (by kernel_rfl) (by kernel_rfl) (by kernel_rfl) e5
      have p14 := slot_norm q14
      have q17 := slot_at (t := 17) 8 ha (by kernel_rfl) (by kernel_rfl) (by kernel_rfl) e8
      have p17 := slot_norm q17
      clear ha hd hst
      exact StepI.pure (v := .int .u64 (b)) rfl rfl (by go_simp) ⟨rfl, hI⟩
    · intro us au w1 k10 hlo hhi ha hd hst hI
      obtain rfl : k10 = 0 := by omega
      have q0 := slot_far (t := 0) (v := .pointer (some ⟨g, 0, none⟩)) ha (by kernel_rfl) (by kernel_rfl)
      have p0 := slot_norm q0
      clear ha hd hst
      exact StepI.pure (v := .pointer (some ⟨g, 0, none⟩)) rfl rfl (by go_simp) ⟨rfl, hI⟩
    · intro us au w1 k11 hlo hhi ha hd hst hI
      obtain rfl : k11 = 0 := by omega
      have e10 := hd 10 _ (by kernel_rfl) rfl
      have q19 := slot_at (t := 19) 10 ha (by kernel_rfl) (by kernel_rfl) (by kernel_rfl) e10
      have p19 := slot_norm q19
      clear ha hd hst
      exact StepI.pure (v := .pointer (some ⟨g, 0, none⟩)) rfl rfl (by go_simp) ⟨rfl, hI⟩
    · intro us au w1 k12 hlo hhi ha hd hst hI
      obtain rfl : k12 = 0 := by omega
      have e11 := hd 11 _ (by kernel_rfl) rfl
      have q20 := slot_at (t := 20) 11 ha (by kernel_rfl) (by kernel_rfl) (by kernel_rfl) e11
      have p20 := slot_norm q20
      clear ha hd hst
      exact StepI.pure (v := .pointer (some ⟨g, 2, none⟩)) rfl rfl (by go_simp) ⟨rfl, hI⟩
    · intro us au w1 k13 hlo hhi ha hd hst hI
      obtain rfl : k13 = 0 := by omega
      have e12 := hd 12 _ (by kernel_rfl) rfl
      have q21 := slot_at (t := 21) 12 ha (by kernel_rfl) (by kernel_rfl) (by kernel_rfl) e12
      have p21 := slot_norm q21
      clear ha hd hst
      have c1 := (congrArg (fun w => World.cell? w ⟨g, 2, none⟩) (show w1 = _ from hI)).trans C2.out
      exact StepI.pure (v := .int .i64 (lr)) rfl rfl (by go_simp) ⟨rfl, hI⟩
    · intro us au w1 k14 hlo hhi ha hd hst hI
      obtain rfl : k14 = 0 := by omega
      have e9 := hd 9 _ (by kernel_rfl) rfl
      have e13 := hd 13 _ (by kernel_rfl) rfl
      have q18 := slot_at (t := 18) 9 ha (by kernel_rfl) (by kernel_rfl) (by kernel_rfl) e9
      have p18 := slot_norm q18
      have q22 := slot_at (t := 22) 13 ha (by kernel_rfl) (by kernel_rfl) (by kernel_rfl) e13
      have p22 := slot_norm q22
      clear ha hd hst
      exact StepI.pure (v := .int .u64 (sh)) rfl rfl (by go_simp) ⟨rfl, hI⟩
    · intro us au w1 k15 hlo hhi ha hd hst hI
      obtain rfl : k15 = 0 := by omega
      have e3 := hd 3 _ (by kernel_rfl) rfl
      have e14 := hd 14 _ (by kernel_rfl) rfl
      have q12 := slot_at (t := 12) 3 ha (by kernel_rfl) (by kernel_rfl) (by kernel_rfl) e3
      have p12 := slot_norm q12
      have q23 := slot_at (t := 23) 14 ha (by kernel_rfl) (by kernel_rfl) (by kernel_rfl) e14
      have p23 := slot_norm q23
      clear ha hd hst
      exact StepI.pure (v := .int .u64 (vn)) rfl rfl (by go_simp) ⟨rfl, hI⟩
    · intro us au w1 k16 hlo hhi ha hd hst hI
      obtain rfl : k16 = 0 := by omega
      have e0 := hd 0 _ (by kernel_rfl) rfl
      have q9 := slot_at (t := 9) 0 ha (by kernel_rfl) (by kernel_rfl) (by kernel_rfl) e0
      have p9 := slot_norm q9
      clear ha hd hst
      exact StepI.pure (v := .pointer (some ⟨g, 0, none⟩)) rfl rfl (by go_simp) ⟨rfl, hI⟩
    · intro us au w1 k17 hlo hhi ha hd hst hI
      obtain rfl : k17 = 0 := by omega
      have e16 := hd 16 _ (by kernel_rfl) rfl
      have q25 := slot_at (t := 25) 16 ha (by kernel_rfl) (by kernel_rfl) (by kernel_rfl) e16
      have p25 := slot_norm q25
      clear ha hd hst
      exact StepI.pure (v := .pointer (some ⟨g, 1, none⟩)) rfl rfl (by go_simp) ⟨rfl, hI⟩
    · intro us au w1 ha hd hst hI
      have e17 := hd 17 _ (by kernel_rfl) rfl
      have e15 := hd 15 _ (by kernel_rfl) rfl
      have q26 := slot_at (t := 26) 17 ha (by kernel_rfl) (by kernel_rfl) (by kernel_rfl) e17
      have p26 := slot_norm q26
      have q24 := slot_at (t := 24) 15 ha (by kernel_rfl) (by kernel_rfl) (by kernel_rfl) e15
      have p24 := slot_norm q24
      clear ha hd hst
      have t0 := (congrArg (fun w => World.cell? w ⟨g, 1, none⟩) (show w1 = _ from hI)).trans C1.out
      have f0 : w1.frozen? ⟨g, 1, none⟩ = false := (congrArg (fun w => World.frozen? w ⟨g, 1, none⟩) (show w1 = _ from hI)).trans F1.out
      exact StepI.stored (w' := w1.setCell ⟨g, 1, none⟩ (.int .u64 vn)) rfl rfl (by go_simp) ⟨trivial, congrArg (fun w => World.setCell w ⟨g, 1, none⟩ (.int .u64 vn)) hI⟩
  case done =>
    intro us w1 hI hd
    have hm1 : WMid g B0 w (.slice A nB c) w1 (.slice A nB c) nB (B.map fun (x : Nat) => Value.int .u8 (x : Int)) vn lr := by
      have hw1 : w1 = w.drew.setCell ⟨g, 1, none⟩ (.int .u64 vn) := hI
      rw [hw1]
      exact HM0.out.set1 vn
    have HM1 := Lib.hid hm1
    obtain ⟨c0, c1, c2, f0, f1, f2⟩ := hm1.cells
    clear hd hI hm1 HM0 C1 C2 F1
    simp only [putAll]
    go_simp
    have hm2 := HM1.out.set2 (lr + 1)
    rw [show ((lr + 1 : Nat) : Int) = (lr : Int) + 1 by omega] at hm2
    have HM2 := Lib.hid hm2
    clear hm2
    go_wp2
    clear c0 c1 c2 f0 f1 f2 HM1
    generalize w1.setCell ⟨g, 2, none⟩ (.int .i64 ((lr : Int) + 1)) = w2 at *
    obtain ⟨c0, c1, c2, f0, f1, f2⟩ := HM2.out.cells
    rw [show ((lr + 1 : Nat) : Int) = (lr : Int) + 1 by omega] at c2
    by_cases h7 : lr = 7
    · have g1 : decide ((8 : Int) ≤ (lr : Int) + 1) = true := decide_eq_true (by omega)
      have g2 : decide (8 ≤ lr + 1) = true := decide_eq_true (by omega)
      have H7 := Lib.hid h7
      clear h7
      refine wp_loop_rounds 2 ?_
      rw [rounds_succ]
      have HM3 := Lib.hid HM2.out.drew
      have C0 : Hid (w2.drew.cell? ⟨g, 0, none⟩ = some (.slice A nB c)) := c0
      have C1 : Hid (w2.drew.cell? ⟨g, 1, none⟩ = some (.int .u64 vn)) := c1
      have hsr := Src.one_new (P := Try.prog) (w := w2.drew) (u := .int .u8 (vn : Int)) (t := 5) rfl
      have hro := HM3.out.row.alloc (.cells #[.int .u8 (vn : Int)] 5)
      have hzz : B0 ≤ (w2.drew.alloc (.cells #[.int .u8 (vn : Int)] 5)).heap.size := by
        have := HM3.out.left.chg.size
        rw [show (w2.drew.alloc (.cells #[.int .u8 (vn : Int)] 5)).heap.size = w2.drew.heap.size + 1 by simp]
        omega
      have HSR := Lib.hid hsr
      have HRO := Lib.hid hro
      have hgw : g < w2.drew.heap.size := HM3.out.cel.blk
      have hmx1 : nB + 1 ≤ maxLen := by unfold maxLen; omega
      have hmx2 : (nB + 1) * 1 ≤ 140737488355328 := by omega
      clear hsr hro c0 c1 f0 f1 f2
      go_upto_region 5 with (fail)
      clear c2
      refine wp_region_ph (by kernel_rfl) [10, 11, 14] [.span 0 2, .span 0 1, .span 0 1, .span 0 1, .span 0 1, .span 0 0, .span 0 0, .span 0 0, .span 0 0, .span 0 0, .phase 0, .phase 1, .span 2 2, .span 2 2, .phase 2] [fun z9 => z9 = .pointer (some ⟨g, 0, none⟩), fun z9 => z9 = .pointer (some ⟨g, 0, none⟩), fun z9 => z9 = .pointer (some ⟨g, 0, none⟩), fun z9 => z9 = .pointer (some ⟨g, 0, none⟩), fun z9 => z9 = .slice A nB c, fun z9 => z9 = .pointer (some ⟨g, 0, none⟩), fun z9 => z9 = .pointer (some ⟨g, 0, none⟩), fun z9 => z9 = .pointer (some ⟨g, 1, none⟩), fun z9 => z9 = .int .u64 (vn), fun z9 => z9 = .int .u8 (vn), fun z9 => z9 = .slice (some ⟨w2.drew.heap.size, 0, none⟩) 1 1, fun v => ∃ A c, v = .slice A (nB + 1) c, fun z9 => z9 = .pointer (some ⟨g, 0, none⟩), fun z9 => z9 = .pointer (some ⟨g, 0, none⟩), fun _ => True] (IByte g B0 w (.slice A nB c) w2.drew (.slice A nB c) nB (B.map fun (x : Nat) => Value.int .u8 (x : Int)) vn (lr + 1) vn) (by kernel_rfl) (by kernel_rfl) (by kernel_rfl) (by kernel_rfl) (by kernel_rfl) (by kernel_rfl) rfl rfl (rfl) ?steps ?done
      case steps =>
        refine ⟨?_, ?_, ?_, ?_, ?_, ?_, ?_, ?_, ?_, ?_, ?_, ?_, ?_, ?_, ?_, trivial⟩
        · intro us au w1 k0 hlo hhi ha hd hst hI
          have q0 := slot_far (t := 0) (v := .pointer (some ⟨g, 0, none⟩)) ha (by kernel_rfl) (by kernel_rfl)
          have p0 := slot_norm q0
          clear ha hd hst
          exact StepI.pure (v := .pointer (some ⟨g, 0, none⟩)) rfl rfl (by go_simp) ⟨rfl, hI⟩
        · intro us au w1 k1 hlo hhi ha hd hst hI
          have q0 := slot_far (t := 0) (v := .pointer (some ⟨g, 0, none⟩)) ha (by kernel_rfl) (by kernel_rfl)
          have p0 := slot_norm q0
          clear ha hd hst
          exact StepI.pure (v := .pointer (some ⟨g, 0, none⟩)) rfl rfl (by go_simp) ⟨rfl, hI⟩
        · intro us au w1 k2 hlo hhi ha hd hst hI
          have e1 := hd 1 _ (by kernel_rfl) rfl
          have q48 := slot_at (t := 48) 1 ha (by kernel_rfl) (by kernel_rfl) (by kernel_rfl) e1
          have p48 := slot_norm q48
          clear ha hd hst
          exact StepI.pure (v := .pointer (some ⟨g, 0, none⟩)) rfl rfl (by go_simp) ⟨rfl, hI⟩
        · intro us au w1 k3 hlo hhi ha hd hst hI
          have e2 := hd 2 _ (by kernel_rfl) rfl
          have q49 := slot_at (t := 49) 2 ha (by kernel_rfl) (by kernel_rfl) (by kernel_rfl) e2
          have p49 := slot_norm q49
          clear ha hd hst
          exact StepI.pure (v := .pointer (some ⟨g, 0, none⟩)) rfl rfl (by go_simp) ⟨rfl, hI⟩
        · intro us au w1 k4 hlo hhi ha hd hst hI
          have e3 := hd 3 _ (by kernel_rfl) rfl
          have q50 := slot_at (t := 50) 3 ha (by kernel_rfl) (by kernel_rfl) (by kernel_rfl) e3
          have p50 := slot_norm q50
          clear ha hd hst
          have c1 := IByte.cell0 hhi hI C0.out hgw
          exact StepI.pure (v := .slice A nB c) rfl rfl (by go_simp) ⟨rfl, hI⟩
        · intro us au w1 k5 hlo hhi ha hd hst hI
          obtain rfl : k5 = 0 := by omega
          have q0 := slot_far (t := 0) (v := .pointer (some ⟨g, 0, none⟩)) ha (by kernel_rfl) (by kernel_rfl)
          have p0 := slot_norm q0
          clear ha hd hst
          exact StepI.pure (v := .pointer (some ⟨g, 0, none⟩)) rfl rfl (by go_simp) ⟨rfl, hI⟩
        · intro us au w1 k6 hlo hhi ha hd hst hI
          obtain rfl : k6 = 0 := by omega
          have e5 := hd 5 _ (by kernel_rfl) rfl
          have q52 := slot_at (t := 52) 5 ha (by kernel_rfl) (by kernel_rfl) (by kernel_rfl) e5
          have p52 := slot_norm q52
          clear ha hd hst
          exact StepI.pure (v := .pointer (some ⟨g, 0, none⟩)) rfl rfl (by go_simp) ⟨rfl, hI⟩
        · intro us au w1 k7 hlo hhi ha hd hst hI
          obtain rfl : k7 = 0 := by omega
          have e6 := hd 6 _ (by kernel_rfl) rfl
          have q53 := slot_at (t := 53) 6 ha (by kernel_rfl) (by kernel_rfl) (by kernel_rfl) e6
          have p53 := slot_norm q53
          clear ha hd hst
          exact StepI.pure (v := .pointer (some ⟨g, 1, none⟩)) rfl rfl (by go_simp) ⟨rfl, hI⟩
        · intro us au w1 k8 hlo hhi ha hd hst hI
          obtain rfl : k8 = 0 := by omega
          have e7 := hd 7 _ (by kernel_rfl) rfl
          have q54 := slot_at (t := 54) 7 ha (by kernel_rfl) (by kernel_rfl) (by kernel_rfl) e7
          have p54 := slot_norm q54
          clear ha hd hst
          have c1 := (congrArg (fun w => World.cell? w ⟨g, 1, none⟩) (show w1 = _ from hI)).trans C1.out
          exact StepI.pure (v := .int .u64 (vn)) rfl rfl (by go_simp) ⟨rfl, hI⟩
        · intro us au w1 k9 hlo hhi ha hd hst hI
          obtain rfl : k9 = 0 := by omega
          have e8 := hd 8 _ (by kernel_rfl) rfl
          have q55 := slot_at (t := 55) 8 ha (by kernel_rfl) (by kernel_rfl) (by kernel_rfl) e8
          have p55 := slot_norm q55
          clear ha hd hst
          exact StepI.pure (v := .int .u8 (vn)) rfl rfl (by go_simp; show (vn : Int) % 256 = _; omega) ⟨rfl, hI⟩
        · intro us au w1 ha hd hst hI
          have e9 := hd 9 _ (by kernel_rfl) rfl
          have q56 := slot_at (t := 56) 9 ha (by kernel_rfl) (by kernel_rfl) (by kernel_rfl) e9
          have p56 := slot_norm q56
          clear ha hd hst
          have hw1 : w1 = w2.drew := hI
          subst hw1
          exact StepI.runs (v := .slice (some ⟨w2.drew.heap.size, 0, none⟩) 1 1) (w' := w2.drew.alloc (.cells #[.int .u8 (vn : Int)] 5)) rfl rfl (by go_simp) ⟨rfl, rfl⟩
        · intro us au w1 ha hd hst hI
          have e4 := hd 4 _ (by kernel_rfl) rfl
          have e10 := hd 10 _ (by kernel_rfl) rfl
          have q51 := slot_at (t := 51) 4 ha (by kernel_rfl) (by kernel_rfl) (by kernel_rfl) e4
          have p51 := slot_norm q51
          have q57 := slot_at (t := 57) 10 ha (by kernel_rfl) (by kernel_rfl) (by kernel_rfl) e10
          have p57 := slot_norm q57
          clear ha hd hst
          have hw1 : w1 = w2.drew.alloc (.cells #[.int .u8 (vn : Int)] 5) := hI
          subst hw1
          refine StepI.wp rfl rfl (fun K hK => ?_)
          refine wp_append_S (.tmp 51) (.tmp 57) 39 39 rfl i0 _ 1 (.slice 5) Try.underlying39 Try.underlying39 (fun _ h => by cases h) hi hz0 hz1 hz2 rfl (v := .slice A nB c) (x := .slice (some ⟨w2.drew.heap.size, 0, none⟩) 1 1) q51 q57 HRO.out HSR.out hmx1 hmx2 hzz (fun A9 c9 w9 ho9 hg9 hw9 => hK _ _ ⟨⟨_, _, rfl⟩, A9, c9, rfl, HM3.out.grew hg9 ho9 hw9⟩)
        · intro us au w1 k12 hlo hhi ha hd hst hI
          obtain rfl : k12 = 2 := by omega
          have e0 := hd 0 _ (by kernel_rfl) rfl
          have q47 := slot_at (t := 47) 0 ha (by kernel_rfl) (by kernel_rfl) (by kernel_rfl) e0
          have p47 := slot_norm q47
          clear ha hd hst
          exact StepI.pure (v := .pointer (some ⟨g, 0, none⟩)) rfl rfl (by go_simp) ⟨rfl, hI⟩
        · intro us au w1 k13 hlo hhi ha hd hst hI
          obtain rfl : k13 = 2 := by omega
          have e12 := hd 12 _ (by kernel_rfl) rfl
          have q59 := slot_at (t := 59) 12 ha (by kernel_rfl) (by kernel_rfl) (by kernel_rfl) e12
          have p59 := slot_norm q59
          clear ha hd hst
          exact StepI.pure (v := .pointer (some ⟨g, 0, none⟩)) rfl rfl (by go_simp) ⟨rfl, hI⟩
        · intro us au w1 ha hd hst hI
          have e13 := hd 13 _ (by kernel_rfl) rfl
          obtain ⟨A11, c11, e11⟩ := hd 11 _ (by kernel_rfl) rfl
          have q60 := slot_at (t := 60) 13 ha (by kernel_rfl) (by kernel_rfl) (by kernel_rfl) e13
          have p60 := slot_norm q60
          have q58 := slot_at (t := 58) 11 ha (by kernel_rfl) (by kernel_rfl) (by kernel_rfl) (Eq.refl (us 11))
          have p58 := slot_norm q58
          clear ha hd hst
          obtain ⟨A9, c9, hv, hgr⟩ := hI
          rw [hv] at p58
          have t0 := hgr.cel.cell 0 (by decide)
          have f0 := hgr.cel.frozen 0
          exact StepI.stored (w' := w1.setCell ⟨g, 0, none⟩ (.slice A9 (nB + 1) c9)) rfl rfl (by go_simp) ⟨trivial, A9, c9, hgr.told⟩
      case done =>
        intro us w1 hI hd
        obtain ⟨A4, c4, hm4⟩ := hI
        have HM4 := Lib.hid hm4
        clear hm4 hd HM3 HM2 HSR HRO
        simp only [putAll]
        go_simp
        obtain ⟨d0, d1, d2, e0, e1, e2⟩ := HM4.out.cells
        have hv0 : (vn : Int) / 256 = 0 := by omega
        go_upto_region 4 with (fail)
        have hm5 := HM4.out.set1 0
        rw [show ((0 : Nat) : Int) = 0 from rfl] at hm5
        clear d0 d1 d2 e0 e1 e2
        generalize w1.setCell ⟨g, 1, none⟩ (.int .u64 0) = w5 at *
        obtain ⟨d0, d1, d2, e0, e1, e2⟩ := hm5.cells
        rw [show ((lr + 1 : Nat) : Int) = 8 by have := H7.out; omega] at d2
        have hm6 := hm5.set2 0
        rw [show ((0 : Nat) : Int) = 0 from rfl] at hm6
        have HM6 := Lib.hid hm6
        clear hm5 hm6
        go_wp2
        clear d0 d1 d2 e0 e1 e2
        generalize w5.setCell ⟨g, 2, none⟩ (.int .i64 0) = w6 at *
        obtain ⟨d0, d1, d2, e0, e1, e2⟩ := HM6.out.cells
        rw [show ((0 : Nat) : Int) = 0 from rfl] at d2
        rw [rounds_succ]
        go_wp2
        go_end0
        have hr7 : r.length = 7 := by rw [HLR.out]; exact H7.out
        have hw : WRep g w6 B0 (.slice A4 (nB + 1) c4) (B ++ [vn]) [] := by
          have h1 := HM6.out.cel
          have h2 := HM6.out.row
          have e : (B ++ [vn]).length = nB + 1 := by rw [List.length_append, HNB.out]; rfl
          refine ⟨h1, ?_⟩
          rw [e, List.map_append]
          exact h2
        have hho := HH.out.full hb1 hr7
        rw [HVN.out] at hho
        exact ⟨rfl, .slice A4 (nB + 1) c4, ⟨B ++ [vn], [], hw, hho⟩, HM6.out.left⟩
    · have g1 : decide ((8 : Int) ≤ (lr : Int) + 1) = false := decide_eq_false (by omega)
      have g2 : decide (8 ≤ lr + 1) = false := decide_eq_false (by omega)
      have H7 := Lib.hid h7
      clear h7
      refine wp_loop_rounds 1 ?_
      rw [rounds_succ]
      go_wp2
      go_end0
      have hr7 : r.length < 7 := by have := HLR.out; have := H7.out; omega
      have hw : WRep g w2 B0 (.slice A nB c) B (r ++ [b]) := by
        have h1 := HM2.out.cel
        have h2 := HM2.out.row
        rw [← HNB.out] at h2 ⊢
        refine ⟨?_, h2⟩
        rw [List.length_append, HLR.out, HVN.out]
        rw [HNB.out]; exact h1
      exact ⟨rfl, .slice A nB c, ⟨B, r ++ [b], hw, HH.out.short hb1 hr7⟩, HM2.out.left⟩
end Go.Proofs.Ytdmggpngmlhboaa
