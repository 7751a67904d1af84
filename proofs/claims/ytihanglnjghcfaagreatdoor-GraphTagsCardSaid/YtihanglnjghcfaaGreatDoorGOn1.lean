/- (*sum.Sum).Sum, by the kinds of sums: a CRC's and an Adler's. -/
import Derived.Test.YtihanglnjghcfaaGreatDoorGOn0
import Derived.Laws.BytesArg
import Derived.Laws.IdiomStrings
import Derived.Deep.CutBlock
namespace Go.Proofs.YtihanglnjghcfaaGreatDoor
open Go.RowKit
set_option linter.unusedVariables false

def AskPost (w : World) (out : List Int) (e : Ending) (w' : World) : Prop :=
  ∃ A c, e = .returned (.slice A out.length c) ∧ OwnS w' w.heap.size 5 1 (.slice A out.length c) out.length (out.map (Value.int .u8)) ∧ Below w.heap.size w w'

theorem u32_not (x : Int) (h0 : 0 ≤ x) (h1 : x < 4294967296) : bits .xor .u32 IntKind.u32.max x = 4294967295 - x := by
  obtain ⟨n, rfl⟩ := Int.eq_ofNat_of_zero_le h0
  have hn : n < 4294967296 := by omega
  rw [show IntKind.u32.max = ((4294967295 : Nat) : Int) by decide, u32_xor_nat _ _ (by omega) hn]
  have : (4294967295 ^^^ n) = 4294967295 - n := by
    apply Nat.eq_of_testBit_eq
    intro i
    rw [show 4294967295 - n = 2 ^ 32 - (n + 1) by omega, Nat.testBit_two_pow_sub_succ (by omega), show 4294967295 = 2 ^ 32 - 1 by rfl, Nat.testBit_xor, Nat.testBit_two_pow_sub_one]
    by_cases hi : i < 32
    · simp [hi]
    · have : n.testBit i = false := Nat.testBit_lt_two_pow (Nat.lt_of_lt_of_le hn (show 2 ^ 32 ≤ 2 ^ i from Nat.pow_le_pow_right (by decide) (Nat.le_of_not_lt hi)))
      simp [hi, this]
  omega

theorem OwnS.empty {w : World} {base : Nat} {e : TypeId} {cs : Array Value} {g c : Nat} (hb : base ≤ g) (h : w.heap[g]? = some (.cells cs e)) (hc : c ≤ maxLen) (hs : c ≤ cs.size) : OwnS w base e 1 (.slice (some ⟨g, 0, none⟩) 0 c) 0 [] :=
  ⟨rfl, .inr ⟨g, 0, c, cs, rfl, hb, ⟨_, h, .inl (Nat.le_refl _)⟩, Nat.zero_le _, hc, by omega, by simp⟩⟩

theorem make_bytes (c : Nat) (hc : c ≤ 281474976710656) (w : World) : (Instr.makeSlice 48 (.int .i64 0) (.int .i64 (c : Int))).run Tryz.prog w = .ok (.slice (some ⟨w.heap.size, 0, none⟩) 0 c) (w.alloc (.cells (madeCells #[.int .u8 0] c) 5)) := by
  obtain ⟨i0, hi, hz0, hz1, hz2⟩ := info_parts Tryz.info_u8
  have hr := run_make (P := Tryz.prog) w 48 5 i0 (.int .u8 0) Tryz.underlying48 hi hz0 .i64 .i64 0 c (Int.le_refl _) (by omega) (by rw [hz2]; omega) (by omega)
  simp only [Int.toNat_zero, Int.toNat_natCast, hz1, Nat.mul_one] at hr
  exact hr

theorem u32_join (a b : Int) (ha : 0 ≤ a ∧ a < 65536) (hb : 0 ≤ b ∧ b < 65536) : bits .or .u32 (b * 65536) a = b * 65536 + a := by
  obtain ⟨n, rfl⟩ := Int.eq_ofNat_of_zero_le ha.1
  obtain ⟨m, rfl⟩ := Int.eq_ofNat_of_zero_le hb.1
  rw [show (m : Int) * 65536 = ((2 ^ 16 * m : Nat) : Int) by omega, u32_or_nat _ _ (by omega) (by omega), ← Nat.two_pow_add_eq_or_of_lt (by omega : n < 2 ^ 16)]
  omega

end Go.Proofs.YtihanglnjghcfaaGreatDoor
namespace Go.Proofs.YtihanglnjghcfaaGreatDoor
open Go.RowKit
set_option linter.unusedVariables false

def padN (L : Nat) : Nat := (119 - L % 64) % 64
theorem padN_le (L : Nat) : padN L ≤ 63 := by unfold padN; omega
theorem padN_lt (L k : Nat) (h : k < padN L) : ((L + 1 + k : Nat) : Int) % 64 ≠ 56 := by unfold padN at h; omega
theorem padN_eq (L : Nat) : (L + 1 + padN L) % 64 = 56 := by unfold padN; omega
def padTo (r : List Int) (k : Nat) : List Int := r ++ 128 :: List.replicate k 0
theorem padTo_len (r : List Int) (k : Nat) : (padTo r k).length = r.length + 1 + k := by unfold padTo; simp; omega
theorem padTo_succ (r : List Int) (k : Nat) : padTo r (k + 1) = padTo r k ++ [0] := by unfold padTo; rw [List.replicate_succ']; simp

def FourPost (w : World) (base : Nat) (v : Value) (k : Nat) (D : List Int) (n : Int) (en : Ending) (w' : World) : Prop :=
  ∃ A c, en = .returned (.slice A (k + 4) c) ∧ OwnS w' base 5 1 (.slice A (k + 4) c) (k + 4) ((D ++ be4 n).map (Value.int .u8)) ∧ w.grownBy w' v.ownBlock
def hF (k : H5) (i : Nat) : Value := if i = 0 then .int .u32 k.a else if i = 1 then .int .u32 k.b else if i = 2 then .int .u32 k.c else if i = 3 then .int .u32 k.d else .int .u32 k.e
def H5.nth (k : H5) (i : Nat) : Int := if i = 0 then k.a else if i = 1 then k.b else if i = 2 then k.c else if i = 3 then k.d else k.e
theorem H5.nth_at (k : H5) (i : Nat) (hi : i < 5) : (#[Value.int .u32 k.a, .int .u32 k.b, .int .u32 k.c, .int .u32 k.d, .int .u32 k.e] : Array Value)[i]? = some (.int .u32 (H5.nth k i)) := by
  match i, hi with
  | 0, _ => rfl
  | 1, _ => rfl
  | 2, _ => rfl
  | 3, _ => rfl
  | 4, _ => rfl
theorem H5.nth_ok (k : H5) (h : k.ok) (i : Nat) : 0 ≤ H5.nth k i ∧ H5.nth k i < 4294967296 := by
  unfold H5.nth
  obtain ⟨h1, h2, h3, h4, h5⟩ := h
  repeat (split; assumption)
  assumption
def shaTo (k : H5) : Nat → List Int
  | 0 => []
  | n + 1 => shaTo k n ++ be4 (H5.nth k n)
theorem shaTo_len (k : H5) (n : Nat) : (shaTo k n).length = 4 * n := by
  induction n with
  | zero => rfl
  | succ n ih => rw [shaTo, List.length_append, ih]; simp [be4]; omega
theorem Cel.setF {w : World} {gh : Nat} {t : TypeId} {k0 : H5} (h : Cel w gh t 5 (hF k0)) (k : H5) :
    Cel (((((w.setCell ⟨gh, 0, none⟩ (.int .u32 k.a)).setCell ⟨gh, 1, none⟩ (.int .u32 k.b)).setCell ⟨gh, 2, none⟩ (.int .u32 k.c)).setCell ⟨gh, 3, none⟩ (.int .u32 k.d)).setCell ⟨gh, 4, none⟩ (.int .u32 k.e)) gh t 5 (hF k) :=
  (((((h.set 0 (.int .u32 k.a)).set 1 (.int .u32 k.b)).set 2 (.int .u32 k.c)).set 3 (.int .u32 k.d)).set 4 (.int .u32 k.e)).congr (fun j hj => by
    match j, hj with
    | 0, _ => rfl
    | 1, _ => rfl
    | 2, _ => rfl
    | 3, _ => rfl
    | 4, _ => rfl)
/-- The rest with its padding and its length behind it. -/
def shaMsg (rest : List Int) (len : Int) : List Int := padTo rest (padN rest.length) ++ be4 (IntKind.u32.wrap (len / 536870912)) ++ be4 (IntKind.u32.wrap (IntKind.u64.wrap (len * 8)))
def shaOut (h : H5) (rest : List Int) (len : Int) : List Int := shaTo (fb ((rest.length + 1 + padN rest.length + 8) / 64) h (shaMsg rest len)) 5
def lenOf : Value → Nat
  | .slice _ n _ => n
  | _ => 0
end Go.Proofs.YtihanglnjghcfaaGreatDoor
namespace Go.Proofs.YtihanglnjghcfaaGreatDoor
open Go.RowKit
set_option linter.unusedVariables false

def adOut (xs : List Int) : List Int := be4 ((adTo (1, 0) xs).2 * 65536 + (adTo (1, 0) xs).1)
def crcOut (xs : List Int) : List Int := be4 (4294967295 - (crcTo 4294967295 xs : Nat))
theorem AskPost.below {w w1 : World} {out : List Int} {e : Ending} {w' : World} (hb : Below w.heap.size w w1) (h : AskPost w1 out e w') : AskPost w out e w' := by
  obtain ⟨A, c, h1, h2, h3⟩ := h
  exact ⟨A, c, h1, h2.base_ hb.size, hb.trans (h3.mono hb.size)⟩

def shaAll (xs : List Int) : List Int := shaOut (fb (xs.length / 64) h0 xs) (xs.drop (64 * (xs.length / 64))) (0 + (xs.length : Int))
theorem h0_ok : h0.ok := by unfold H5.ok Word32 h0; decide
end Go.Proofs.YtihanglnjghcfaaGreatDoor
namespace Go.Proofs.YtihanglnjghcfaaGreatDoor
open Go.RowKit
set_option linter.unusedVariables false

def num4L (l : List Int) : Int := num4 (l.getD 0 0) (l.getD 1 0) (l.getD 2 0) (l.getD 3 0)
def bytesOf (s : ByteArray) : List Int := s.data.toList.map fun b => (b.toNat : Int)
theorem bytesOf_len (s : ByteArray) : (bytesOf s).length = s.size := by unfold bytesOf; rw [List.length_map, Array.length_toList]; rfl
theorem bytesOf_at (s : ByteArray) (k : Nat) (h : k < s.size) : (bytesOf s).getD k 0 = ((s[k]'h).toNat : Int) := by
  have h2 : k < s.data.toList.length := by rw [Array.length_toList]; exact h
  unfold bytesOf
  rw [List.getD_eq_getElem?_getD, List.getElem?_map, List.getElem?_eq_getElem h2, Array.getElem_toList]
  rfl
theorem bytesOf_ok (s : ByteArray) : Bytes (bytesOf s) := fun x hx => by
  obtain ⟨b, _, rfl⟩ := List.mem_map.1 hx
  have := b.toNat_lt
  omega

def rcStep (c x : Nat) : Nat := crcN 8 (c ^^^ x)
def rcTo (c : Nat) (xs : List Int) : Nat := xs.foldl (fun c x => rcStep c x.toNat) c
theorem rcTo_snoc (c : Nat) (xs : List Int) (x : Int) : rcTo c (xs ++ [x]) = rcStep (rcTo c xs) x.toNat := by unfold rcTo; rw [List.foldl_append]; rfl
theorem rcStep_lt (c x : Nat) (h : c < 4294967296) (hx : x < 256) : rcStep c x < 4294967296 :=
  crcN_lt 8 _ (Nat.xor_lt_two_pow (n := 32) (by omega) (by omega))
theorem rcTo_lt (c : Nat) (xs : List Int) (hc : c < 4294967296) (hx : Bytes xs) : rcTo c xs < 4294967296 := by
  unfold rcTo
  induction xs generalizing c with
  | nil => exact hc
  | cons x xs ih =>
    have := hx x (by simp)
    exact ih _ (rcStep_lt _ _ hc (by omega)) (fun y hy => hx y (by simp [hy]))
theorem crcBit_one (c : Nat) (h : c % 2 = 1) : crcBit c = (c / 2) ^^^ 3988292384 := if_pos h
theorem crcBit_zero (c : Nat) (h : ¬ c % 2 = 1) : crcBit c = c / 2 := if_neg h
theorem OwnS.of_str (w : World) (s : ByteArray) (e : TypeId) (c : Nat) (h1 : s.size ≤ c) (h2 : c ≤ maxLen) :
    OwnS (w.alloc (.cells (bytesRow s c) e ((bytesRow s c).size, (bytesRow s c).size + 1))) w.heap.size e 1 (.slice (some ⟨w.heap.size, 0, none⟩) s.size c) s.size ((bytesOf s).map (Value.int .u8)) := by
  have hs : (bytesRow s c).size = c := by unfold bytesRow; simp; have : s.data.size = s.size := rfl; omega
  refine ⟨by rw [List.length_map, bytesOf_len, Nat.mul_one], .inr ⟨w.heap.size, 0, c, bytesRow s c, rfl, Nat.le_refl _, ⟨_, heap_alloc_new w _, .inr (Nat.le_refl _)⟩, h1, h2, by omega, ?_⟩⟩
  unfold bytesRow bytesOf
  rw [Array.toList_append, List.drop_zero, Nat.mul_one, List.take_append_of_le_length (by simp)]
  rw [List.take_of_length_le (by simp)]
  simp
theorem Src.one_at {P : Program} {w : World} {u : Value} {t : TypeId} {g : Nat} (hg : g = w.heap.size) (h1 : u.oneCell' = true) : Src P (w.alloc (.cells #[u] t)) 1 (.slice (some ⟨g, 0, none⟩) 1 1) 1 [u] := by
  subst hg; exact Src.one_new h1
theorem cell_beside (w : World) (g i j : Nat) (v : Value) (h : i ≠ j) : (w.setCell ⟨g, i, none⟩ v).cell? ⟨g, j, none⟩ = w.cell? ⟨g, j, none⟩ :=
  World.cell?_setCell_other _ _ _ _ (by intro he; injection he with _ h2 _; exact h h2)
end Go.Proofs.YtihanglnjghcfaaGreatDoor
namespace Go.Proofs.YtihanglnjghcfaaGreatDoor
open Go.RowKit
set_option linter.unusedVariables false

theorem xor_half (a b : Nat) : (a ^^^ b) / 2 = (a / 2) ^^^ (b / 2) := by
  apply Nat.eq_of_testBit_eq
  intro i
  simp [Nat.testBit_div_two, Nat.testBit_xor]
theorem xor_odd (a b : Nat) : (a ^^^ b) % 2 = (a % 2 + b % 2) % 2 := by
  have h := Nat.testBit_xor a b 0
  simp only [Nat.testBit_zero] at h
  have e : ∀ n : Nat, n % 2 = 0 ∨ n % 2 = 1 := fun n => by omega
  rcases e a with ha | ha <;> rcases e b with hb | hb <;> rcases e (a ^^^ b) with hc | hc <;> simp_all
theorem crcBit_xor (a b : Nat) : crcBit (a ^^^ b) = crcBit a ^^^ crcBit b := by
  have h1 := xor_half a b
  have h2 := xor_odd a b
  have e : ∀ n : Nat, n % 2 = 0 ∨ n % 2 = 1 := fun n => by omega
  unfold crcBit
  rw [h1, h2]
  rcases e a with ha | ha <;> rcases e b with hb | hb <;> rw [ha, hb] <;> simp
  · ac_rfl
  · ac_rfl
  · rw [show (a / 2 ^^^ 3988292384 ^^^ (b / 2 ^^^ 3988292384)) = (a / 2 ^^^ b / 2) ^^^ (3988292384 ^^^ 3988292384) by ac_rfl, Nat.xor_self, Nat.xor_zero]
theorem crcN_xor (n a b : Nat) : crcN n (a ^^^ b) = crcN n a ^^^ crcN n b := by
  induction n with
  | zero => rfl
  | succ n ih => rw [crcN, ih, crcBit_xor]; rfl
theorem crcBit_even (k : Nat) : crcBit (2 * k) = k := by unfold crcBit; rw [if_neg (by omega)]; omega
theorem crcN_high (m : Nat) : crcN 8 (256 * m) = m := by
  have e : 256 * m = 2 * (2 * (2 * (2 * (2 * (2 * (2 * (2 * m))))))) := by omega
  rw [e]
  simp only [crcN, crcBit_even]
theorem split_xor (c : Nat) : c = (c % 256) ^^^ (256 * (c / 256)) := by
  apply Nat.eq_of_testBit_eq
  intro i
  rw [Nat.testBit_xor, show c % 256 = c % 2 ^ 8 from rfl, show 256 * (c / 256) = 2 ^ 8 * (c / 2 ^ 8) from rfl, Nat.testBit_mod_two_pow, Nat.testBit_two_pow_mul, Nat.testBit_div_two_pow]
  by_cases h : i < 8
  · simp [h, show ¬ 8 ≤ i by omega]
  · simp [h, show 8 ≤ i by omega]
theorem crcStep_bits (c x : Nat) : crcStep c x = rcStep c x := by
  unfold crcStep rcStep crcTab
  have h : c ^^^ x = (c % 256 ^^^ x) ^^^ (256 * (c / 256)) := by
    conv => lhs; rw [split_xor c]
    ac_rfl
  rw [h, crcN_xor 8 (c % 256 ^^^ x) (256 * (c / 256)), crcN_high]
  ac_rfl
theorem crcTo_bits (c : Nat) (xs : List Int) : crcTo c xs = rcTo c xs := by
  unfold crcTo rcTo
  induction xs generalizing c with
  | nil => rfl
  | cons x xs ih => rw [List.foldl_cons, List.foldl_cons, crcStep_bits, ih]
end Go.Proofs.YtihanglnjghcfaaGreatDoor
namespace Go.Proofs.YtihanglnjghcfaaGreatDoor
open Go.RowKit
set_option linter.unusedVariables false

theorem or_add (x y : Int) (k : Nat) (hx : 0 ≤ x) (hy : 0 ≤ y) (hy2 : y < ((2 ^ k : Nat) : Int)) (hs : x * ((2 ^ k : Nat) : Int) + y < 4294967296) : bits .or .u32 (x * ((2 ^ k : Nat) : Int)) y = x * ((2 ^ k : Nat) : Int) + y := by
  obtain ⟨n, rfl⟩ := Int.eq_ofNat_of_zero_le hx
  obtain ⟨m, rfl⟩ := Int.eq_ofNat_of_zero_le hy
  have e : (n : Int) * ((2 ^ k : Nat) : Int) = ((2 ^ k * n : Nat) : Int) := by rw [Int.natCast_mul, Int.mul_comm]
  rw [e] at hs ⊢
  have h1 : 2 ^ k * n < 4294967296 := by omega
  have h2 : m < 2 ^ k := by omega
  rw [u32_or_nat _ _ h1 (by omega), ← Nat.two_pow_add_eq_or_of_lt h2]
  omega
theorem num4_eq (a b c d : Int) (ha : 0 ≤ a ∧ a < 256) (hb : 0 ≤ b ∧ b < 256) (hc : 0 ≤ c ∧ c < 256) (hd : 0 ≤ d ∧ d < 256) : num4 a b c d = a * 16777216 + b * 65536 + c * 256 + d := by
  unfold num4
  have h1 := or_add a (b * 65536) 24 ha.1 (by omega) (by omega) (by omega)
  rw [show ((2 ^ 24 : Nat) : Int) = 16777216 by decide] at h1
  rw [h1]
  have h2 := or_add (a * 256 + b) (c * 256) 16 (by omega) (by omega) (by omega) (by omega)
  rw [show ((2 ^ 16 : Nat) : Int) = 65536 by decide, show (a * 256 + b) * 65536 = a * 16777216 + b * 65536 by omega] at h2
  rw [h2]
  have h3 := or_add (a * 65536 + b * 256 + c) d 8 (by omega) (by omega) (by omega) (by omega)
  rw [show ((2 ^ 8 : Nat) : Int) = 256 by decide, show (a * 65536 + b * 256 + c) * 256 = a * 16777216 + b * 65536 + c * 256 by omega] at h3
  rw [h3]
theorem be4_ok (n : Int) (h0 : 0 ≤ n) (h1 : n < 4294967296) : Bytes (be4 n) := fun x hx => by
  simp only [be4, List.mem_cons, List.not_mem_nil, or_false] at hx
  rcases hx with rfl | rfl | rfl | rfl <;> omega
theorem num4L_be4 (n : Int) (h0 : 0 ≤ n) (h1 : n < 4294967296) : num4L (be4 n) = n := by
  show num4 (n / 16777216) (n / 65536 % 256) (n / 256 % 256) (n % 256) = n
  rw [num4_eq _ _ _ _ (by omega) (by omega) (by omega) (by omega)]
  omega
theorem crcOut_num (xs : List Int) (hx : Bytes xs) : Bytes (crcOut xs) ∧ num4L (crcOut xs) = 4294967295 - (crcTo 4294967295 xs : Nat) := by
  have := crcTo_lt 4294967295 xs (by decide) hx
  exact ⟨be4_ok _ (by omega) (by omega), num4L_be4 _ (by omega) (by omega)⟩
theorem adOut_num (xs : List Int) : Bytes (adOut xs) ∧ num4L (adOut xs) = (adTo (1, 0) xs).2 * 65536 + (adTo (1, 0) xs).1 := by
  obtain ⟨h1, h2, h3, h4⟩ := adTo_ok (1, 0) xs ⟨by decide, by decide, by decide, by decide⟩
  exact ⟨be4_ok _ (by omega) (by omega), num4L_be4 _ (by omega) (by omega)⟩
end Go.Proofs.YtihanglnjghcfaaGreatDoor
namespace Go.Proofs.YtihanglnjghcfaaGreatDoor
open Go.RowKit
set_option linter.unusedVariables false

theorem bytesOf_str (xs : List Int) (h : Bytes xs) : bytesOf (strOfNums xs) = xs := by
  unfold bytesOf
  rw [strOfNums_data, List.map_map]
  refine (List.map_congr_left (g := id) fun x hx => ?_).trans (List.map_id xs)
  have := h x hx
  simp only [Function.comp, id]
  rw [UInt8.toNat_ofNat', Nat.mod_eq_of_lt (by omega)]
  omega
theorem strOfNums_bytes (s : ByteArray) : strOfNums (bytesOf s) = s := by
  unfold strOfNums bytesOf
  rw [List.map_map]
  have : (s.data.toList.map ((fun n : Int => UInt8.ofNat n.toNat) ∘ fun b => ((b.toNat : Nat) : Int))) = s.data.toList := by
    refine (List.map_congr_left (g := id) fun x hx => ?_).trans (List.map_id _)
    simp
  rw [this]
theorem run_str_ints {P : Program} {w : World} (src dst e : TypeId) (hs : P.underlying src = some (.slice e)) (he : P.underlying e = some (.int .u8)) (hd : P.underlying dst = some .string) (A : Option Addr) (c : Nat) (xs : List Int) (h : Ints .u8 w A xs) :
    (convert src dst (.slice A xs.length c)).run P w = .ok (.string (strOfNums xs)) w := by
  by_cases hx : 0 < xs.length
  · obtain ⟨b, o, rfl, _, hc⟩ := h hx
    exact run_convert_bytes_arg w src e hs he b o xs.length c xs rfl (fun i hi => hc i hi) dst hd
  · have hn : xs = [] := List.length_eq_zero_iff.1 (by omega)
    subst hn
    cases A with
    | none => exact run_convert_bytes_nil w src e hs he _ c dst hd
    | some a => exact run_convert_bytes_back w src dst e a c [] hs he hd (fun j hj => by cases hj)
end Go.Proofs.YtihanglnjghcfaaGreatDoor
namespace Go.Proofs.YtihanglnjghcfaaGreatDoor
open Go.RowKit
set_option linter.unusedVariables false

def wordsL : List Int → List Int
  | [] => []
  | x :: xs => be4 x ++ wordsL xs
theorem wordsL_snoc (xs : List Int) (x : Int) : wordsL (xs ++ [x]) = wordsL xs ++ be4 x := by
  induction xs with
  | nil => simp [wordsL]
  | cons y ys ih => simp [wordsL, ih]
theorem wordsL_len (xs : List Int) : (wordsL xs).length = 4 * xs.length := by
  induction xs with
  | nil => rfl
  | cons y ys ih => simp [wordsL, be4, ih]; omega
def Words (xs : List Int) : Prop := ∀ x ∈ xs, 0 ≤ x ∧ x < 4294967296
theorem Words.at_ {xs : List Int} (h : Words xs) (k : Nat) (hk : k < xs.length) : 0 ≤ xs.getD k 0 ∧ xs.getD k 0 < 4294967296 := by
  rw [List.getD_eq_getElem?_getD, List.getElem?_eq_getElem hk]; exact h _ (List.getElem_mem hk)
theorem wordsL_ok (xs : List Int) (h : Words xs) : Bytes (wordsL xs) := by
  induction xs with
  | nil => intro x hx; cases hx
  | cons y ys ih =>
    intro x hx
    rcases List.mem_append.1 hx with hx | hx
    · exact be4_ok y (h y (by simp)).1 (h y (by simp)).2 x hx
    · exact ih (fun z hz => h z (by simp [hz])) x hx

set_option maxRecDepth 100000 in
set_option maxHeartbeats 2000000 in
theorem words_any (A : Option Addr) (n c : Nat) (xs : List Int) (w : World) (hI : Ints .u32 w A xs) (hn : xs.length = n) (hb : Words xs) (hsz : n ≤ 1000000) :
    Calls Tryz.prog 78 #[.slice A n c] w (AskPost w (wordsL xs)) := by
  subst hn
  obtain ⟨i0, hi, hz0, hz1, hz2⟩ := info_parts Tryz.info_u8
  go_enter Tryz.func78, Tryz.ntmps78
  go_wp2
  go_loopw [3, 4] (fun out i wr => ∃ (k : Nat) (A : Option Addr) (c : Nat), k ≤ xs.length ∧ i = .int .i64 k ∧ out = .slice A (wordsL (xs.take k)).length c ∧ OwnS wr w.heap.size 5 1 (.slice A (wordsL (xs.take k)).length c) (wordsL (xs.take k)).length ((wordsL (xs.take k)).map (Value.int .u8)) ∧ Below w.heap.size w wr) (fun _ i _ => xs.length - (intOf i).toNat)
  case atStart => exact ⟨0, none, 0, by omega, rfl, rfl, OwnS.nil _ _ _ _, Below.refl _ _⟩
  case round =>
    obtain ⟨k, A9, c9, hk9, rfl, rfl, ho, hB⟩ := hrel
    by_cases hlt : k < xs.length
    · have hx := hb.at_ k hlt
      have HN : Hid (wordsL (xs.take (k + 1)) = wordsL (xs.take k) ++ be4 (xs.getD k 0)) := by show _ = _; rw [take_snoc_getD xs k hlt, wordsL_snoc]
      have hll : (wordsL (xs.take k)).length ≤ 140737488355000 := by rw [wordsL_len, List.length_take_of_le hk9]; omega
      obtain ⟨b, o, rfl, hbl, hcell⟩ := hI (by omega)
      have hc := (hB.cell (p := ⟨b, o + k, none⟩) hbl).trans (hcell k hlt)
      clear hcell hI
      generalize xs.getD k 0 = x at *
      generalize wordsL (xs.take k) = l at *
      have hkI : (k : Int) < xs.length := by omega
      have hbr : b < wr.heap.size := Nat.lt_of_lt_of_le hbl hB.size
      have hne : (Value.slice A9 l.length c9).ownBlock ≠ some b := fun h => by have := ho.lt b h; omega
      have e1 : IntKind.u8.wrap (x / 16777216) = x / 16777216 := by rw [IntKind.wrap_u8]; omega
      have e2 : IntKind.u8.wrap (x / 65536) = x / 65536 % 256 := IntKind.wrap_u8 _
      have e3 : IntKind.u8.wrap (x / 256) = x / 256 % 256 := IntKind.wrap_u8 _
      have e4 : IntKind.u8.wrap x = x % 256 := IntKind.wrap_u8 _
      go_wp2
      go_region_held3 (fun w' => w'.cell? ⟨b, o + k, none⟩ = some (.int .u32 x)) (first | exact hk2 | go_keep) ((refine step_append_S rfl (.tmp 11) (.tmp 35) 48 48 rfl i0 (.int .u8 0) 1 (.slice 5) Tryz.underlying48 Tryz.underlying48 (fun _ h => by cases h) hi hz0 hz1 hz2 rfl rfl rfl ((ho.alloc _).drew) ((Src.new (us := (be4 x).map (Value.int .u8)) rfl (ints_oneCell .u8 (be4 x))).drew) ?_ ?_ ?_ ?_; (simp only [be4, List.length_map, List.length_cons, List.length_nil]; unfold maxLen; omega); (simp only [be4, List.length_map, List.length_cons, List.length_nil]; omega); (have := hB.size; simp; omega); intro A2 c2 w2 ho2 hg2 hw2; have hk2 := (hg2.cell_far ⟨b, o + k, none⟩ (by simp; omega) (Ne.symm hne)).trans ((World.cell?_alloc_lt wr _ ⟨b, o + k, none⟩ hbr).trans hc)))
      go_wp2
      go_roundw
      case rel =>
        have hB' := hB.size
        refine ⟨k + 1, A2, c2, by omega, by go_num, ?_, ?_, ?_⟩
        · rw [HN.out, List.length_append]; first | done | rfl
        · rw [HN.out, List.length_append, List.map_append]; exact ho2
        · exact ((hB.alloc (by omega) _).drew).grown hg2 (by simp; omega) (fun q h => (ho.lt q h).1)
      case measure => simp [intOf]; omega
    · obtain rfl : k = xs.length := by omega
      rw [List.take_length] at ho ⊢
      go_wp2
      go_ret
      exact ⟨A9, c9, rfl, ho, hB⟩
end Go.Proofs.YtihanglnjghcfaaGreatDoor
namespace Go.Proofs.YtihanglnjghcfaaGreatDoor
open Go.RowKit
set_option linter.unusedVariables false

set_option maxRecDepth 100000 in
theorem rol_any (x n : Int) (w : World) (h0 : 0 ≤ x) (h1 : x < 4294967296) (hn : n = 1 ∨ n = 5 ∨ n = 30) :
    Calls Tryz.prog 79 #[.int .u32 x, .int .i64 n] w fun e w' => e = .returned (.int .u32 (rotN n x)) ∧ ∃ nq, w' = w.drewN nq := by
  rcases hn with rfl | rfl | rfl
  all_goals
    go_enter Tryz.func79, Tryz.ntmps79
    go_wp2
    go_quiet (fail)
    go_wp2
    go_ret
    exact ⟨rfl, _, rfl⟩
end Go.Proofs.YtihanglnjghcfaaGreatDoor
namespace Go.Proofs.YtihanglnjghcfaaGreatDoor
open Go.RowKit
set_option linter.unusedVariables false

theorem Cel.newH (w : World) (t : TypeId) (x0 x1 x2 x3 x4 : Int) (Q : H5) (h : Q = ⟨x0, x1, x2, x3, x4⟩) : Cel (w.alloc (.cells #[.int .u32 x0, .int .u32 x1, .int .u32 x2, .int .u32 x3, .int .u32 x4] t)) w.heap.size t 5 (hF Q) := by
  subst h
  exact Cel.new w t #[.int .u32 x0, .int .u32 x1, .int .u32 x2, .int .u32 x3, .int .u32 x4] _ (fun i hi => by
    match i, hi with
    | 0, _ => rfl
    | 1, _ => rfl
    | 2, _ => rfl
    | 3, _ => rfl
    | 4, _ => rfl)
theorem info_w32 : (Tryz.prog.info? 140).map (fun i => (i.zero, i.size, i.bytes)) = some (some (.int .u32 0), 1, 4) := by kernel_rfl
theorem make80 (w : World) : (Instr.makeSlice 141 (.int .i64 80) (.int .i64 80)).run Tryz.prog w = .ok (.slice (some ⟨w.heap.size, 0, none⟩) 80 80) (w.alloc (.cells (madeCells #[.int .u32 0] 80) 140)) := by
  obtain ⟨i0, hi, hz0, hz1, hz2⟩ := info_parts info_w32
  have hr := run_make (P := Tryz.prog) w 141 140 i0 (.int .u32 0) Tryz.underlying141 hi hz0 .i64 .i64 80 80 (by decide) (by decide) (by rw [hz2]; decide) (by decide)
  simp only [hz1] at hr
  exact hr

set_option maxRecDepth 100000 in
set_option maxHeartbeats 4000000 in
theorem refSha_any (s : ByteArray) (w : World) (hsz : s.size ≤ 140737488351300) :
    Calls Tryz.prog 57 #[.string s] w (AskPost w (shaTo (fb (((shaMsg (bytesOf s) (s.size : Int))).length / 64) h0 (shaMsg (bytesOf s) (s.size : Int))) 5)) := by
  obtain ⟨i0, hi, hz0, hz1, hz2⟩ := info_parts Tryz.info_u8
  have hcv := fun W => run_bytes_of_string (P := Tryz.prog) W 9 48 5 s Tryz.underlying9 Tryz.underlying48 Tryz.underlying5
  have hge := grownCap_ge w s.size 0 5
  have hcm : grownCap w s.size 0 5 ≤ maxLen := grownCap_le_maxLen w s.size 0 5 (by unfold maxLen; omega)
  go_enter Tryz.func57, Tryz.ntmps57
  have hoS := OwnS.of_str w s 5 _ hge hcm
  have hb := bytesOf_ok s
  have hbl := bytesOf_len s
  go_wp2_with (at_builtin; go_loud (refine wpList_append_S rfl (.tmp 24) (.tmp 25) 48 48 rfl i0 (.int .u8 0) 1 (.slice 5) Tryz.underlying48 Tryz.underlying48 (fun _ h => by cases h) hi hz0 hz1 hz2 rfl rfl rfl ((hoS.alloc _).drew) ((Src.one_at (u := .int .u8 128) (by simp) rfl).drew) ?_ ?_ ?_ ?_; (unfold maxLen; omega); omega; (simp; omega); intro A2 c2 w2 ho2 hg2 hw2))
  generalize hR : bytesOf s = R at *
  have hp2 : OwnS w2 w.heap.size 5 1 (.slice A2 (padTo R 0).length c2) (padTo R 0).length ((padTo R 0).map (Value.int .u8)) := by
    rw [padTo_len, hbl]; unfold padTo; rw [List.map_append]; exact ho2
  have hl2 : s.size + 1 = (padTo R 0).length := by rw [padTo_len, hbl]
  have hB2 : Below w.heap.size w w2 := ((((Below.refl _ _).alloc (Nat.le_refl _) _).alloc (by simp) _).drew).grown hg2 (by simp; omega) (fun k h => (hoS.lt k h).1)
  clear hcv ho2 hg2 hw2 hoS hge hcm
  rw [hl2]
  have HR := Lib.hid hR
  have HL := Lib.hid hbl
  clear hR
  go_loopw [4] (fun p wr => ∃ (k : Nat) (A : Option Addr) (c : Nat), k ≤ padN R.length ∧ p = .slice A (padTo R k).length c ∧ OwnS wr w.heap.size 5 1 (.slice A (padTo R k).length c) (padTo R k).length ((padTo R k).map (Value.int .u8)) ∧ Below w.heap.size w wr) (fun p _ => 140737488355327 - lenOf p)
  case atStart => exact ⟨0, A2, c2, Nat.zero_le _, rfl, hp2, hB2⟩
  case round =>
    clear hp2 hB2 hl2
    obtain ⟨k, A, c, hk, rfl, ho, hB⟩ := hrel
    have hpl := padTo_len R k
    have hpn := padN_le R.length
    have hRl : R.length ≤ 140737488351300 := by omega
    clear hbl
    by_cases hlt : k < padN R.length
    · have hne : ((padTo R k).length : Int) % 64 ≠ 56 := by rw [hpl]; exact padN_lt _ _ hlt
      have hd : (((padTo R k).length : Int) % 64 != 56) = true := by simpa using hne
      go_wp2_with (at_builtin; refine wpList_append_S rfl (.tmp 31) (.tmp 32) 48 48 rfl i0 (.int .u8 0) 1 (.slice 5) Tryz.underlying48 Tryz.underlying48 (fun _ h => by cases h) hi hz0 hz1 hz2 rfl rfl rfl (ho.alloc _) (Src.one_new (u := .int .u8 0) rfl) ?_ ?_ ?_ ?_; (unfold maxLen; omega); omega; (have := hB.size; simp; omega); intro A2 c2 w2 ho2 hg2 hw2)
      go_roundw
      case rel =>
        have hB' := hB.size
        have hl1' := padTo_len R (k + 1)
        have e : (padTo R k).length + 1 = (padTo R (k + 1)).length := by omega
        have e2 : (padTo R k).map (Value.int .u8) ++ [Value.int .u8 0] = (padTo R (k + 1)).map (Value.int .u8) := by rw [padTo_succ, List.map_append]; rfl
        rw [e, e2] at ho2
        rw [show R.length + 1 + k + 1 = (padTo R (k + 1)).length by omega]
        exact ⟨k + 1, A2, c2, by omega, rfl, ho2, (hB.alloc (by omega) _).grown hg2 (by simp; omega) (fun q h => (ho.lt q h).1)⟩
      case measure => simp only [lenOf]; omega
    · obtain rfl : k = padN R.length := by omega
      have hmod := padN_eq R.length
      rw [← hpl] at hmod
      have hd : (((padTo R (padN R.length)).length : Int) % 64 != 56) = false := by simp; omega
      have hlen : (padTo R (padN R.length)).length ≤ 140737488351370 := by omega
      have hDb : Bytes (padTo R (padN R.length)) := fun x hx => by
        unfold padTo at hx
        rcases List.mem_append.1 hx with h' | h'
        · exact hb x h'
        · rcases List.mem_cons.1 h' with rfl | h'
          · omega
          · rw [List.eq_of_mem_replicate h']; omega
      clear hpl hpn hlt
      generalize hD : padTo R (padN R.length) = D at *
      have HD := Lib.hid hD
      clear hD
      have hM : shaMsg R (s.size : Int) = D ++ wordsL [(s.size : Int) * 8 / 4294967296, (s.size : Int) * 8 % 4294967296] := by
        unfold shaMsg
        rw [HD.out, IntKind.wrap_u32', IntKind.wrap_u32', IntKind.wrap_u64]
        rw [show (s.size : Int) / 536870912 % 4294967296 = (s.size : Int) * 8 / 4294967296 by omega, show (s.size : Int) * 8 % 18446744073709551616 % 4294967296 = (s.size : Int) * 8 % 4294967296 by omega]
        simp [wordsL]
      have hwl : (wordsL [(s.size : Int) * 8 / 4294967296, (s.size : Int) * 8 % 4294967296]).length = 8 := rfl
      have hW : Words [(s.size : Int) * 8 / 4294967296, (s.size : Int) * 8 % 4294967296] := by
        intro x hx
        simp only [List.mem_cons, List.not_mem_nil, or_false] at hx
        rcases hx with rfl | rfl <;> omega
      have hWb := wordsL_ok _ hW
      have HM := Lib.hid hM
      have HWL := Lib.hid hwl
      clear hM hwl
      go_wp2_with fail
      refine (words_any (some ⟨wr.heap.size, 0, none⟩) 2 2 [(s.size : Int) * 8 / 4294967296, (s.size : Int) * 8 % 4294967296] _ (Ints.of_new (heap_alloc_new wr _) rfl) rfl hW (by decide)).mono ?_
      rintro e w3 ⟨A3, c3, rfl, ho3, hb3⟩
      have hB3 : Below w.heap.size w w3 := (hB.alloc hB.size _).trans (hb3.mono (by simp; have := hB.size; omega))
      have hoD : OwnS w3 w.heap.size 5 1 (.slice A D.length c) D.length (D.map (Value.int .u8)) := (ho.alloc _).chg (Chg.of_below (S := fun _ => False) hb3) (fun _ _ h => h)
      have hI3 := ho3.ints
      clear ho3 hb3 ho hB hW
      generalize wordsL [(s.size : Int) * 8 / 4294967296, (s.size : Int) * 8 % 4294967296] = W8 at *
      have hw8 : W8.length ≤ 8 := Nat.le_of_eq HWL.out
      have hS3 := Src.ints (P := Tryz.prog) (c := c3) hI3
      have hmk := make80
      go_wp2_with (at_builtin; go_loud (refine wpList_append_S rfl (.tmp 34) (.tmp 41) 48 48 rfl i0 (.int .u8 0) 1 (.slice 5) Tryz.underlying48 Tryz.underlying48 (fun _ h => by cases h) hi hz0 hz1 hz2 rfl rfl rfl hoD hS3 ?_ ?_ ?_ ?_; (unfold maxLen; omega); omega; (have := hB3.size; omega); intro A5 c5 w5 ho5 hg5 hw5))
      have hMl : D.length + W8.length = (shaMsg R (s.size : Int)).length := by rw [HM.out, List.length_append]
      have hMm : (D.map (Value.int .u8) ++ W8.map (Value.int .u8)) = (shaMsg R (s.size : Int)).map (Value.int .u8) := by rw [HM.out, List.map_append]
      have hMb : Bytes (shaMsg R (s.size : Int)) := by
        rw [HM.out]
        intro x hx
        rcases List.mem_append.1 hx with hx | hx
        · exact hDb x hx
        · exact hWb x hx
      have hMd : (shaMsg R (s.size : Int)).length = 64 * ((shaMsg R (s.size : Int)).length / 64) := by have := HWL.out; omega
      have hMle : (shaMsg R (s.size : Int)).length ≤ 140737488351378 := by omega
      rw [hMm, hMl] at ho5
      rw [hMl]
      have hB5 : Below w.heap.size w w5 := hB3.grown hg5 hB3.size (fun q h => (hoD.lt q h).1)
      have hI5 := ho5.ints
      have hA5 : ∀ o, 0 < (shaMsg R (s.size : Int)).length → A5 ≠ some ⟨w5.heap.size + 1, o, none⟩ := fun o hl h => by
        subst h
        have := ho5.lt (w5.heap.size + 1) rfl
        omega
      clear ho5 hg5 hw5 hMm hMl hoD hS3 hI3 hB3 HM hDb hWb hlen hw8 hd hmod
      generalize shaMsg R (s.size : Int) = M at *
      have hcel : Cel ((w5.alloc (.cells #[.int .u32 1732584193, .int .u32 4023233417, .int .u32 2562383102, .int .u32 271733878, .int .u32 3285377520] 140)).alloc (.cells (madeCells #[.int .u32 0] 80) 140)) w5.heap.size 140 5 (hF h0) :=
        (Cel.new w5 _ #[.int .u32 1732584193, .int .u32 4023233417, .int .u32 2562383102, .int .u32 271733878, .int .u32 3285377520] (hF h0) (fun i hi => by
          match i, hi with
          | 0, _ => rfl
          | 1, _ => rfl
          | 2, _ => rfl
          | 3, _ => rfl
          | 4, _ => rfl)).alloc _
      have hpre : Pre ((w5.alloc (.cells #[.int .u32 1732584193, .int .u32 4023233417, .int .u32 2562383102, .int .u32 271733878, .int .u32 3285377520] 140)).alloc (.cells (madeCells #[.int .u32 0] 80) 140)) (w5.heap.size + 1) 140 80 .u32 [] :=
        ⟨_, heap_at _ _ _ (by simp), by simp [madeCells], by simp, fun j hj => by simp at hj⟩
      have hB7 := (hB5.alloc hB5.size (.cells #[.int .u32 1732584193, .int .u32 4023233417, .int .u32 2562383102, .int .u32 271733878, .int .u32 3285377520] 140)).alloc (by simp; have := hB5.size; omega) (.cells (madeCells #[.int .u32 0] 80) 140)
      have hI7 : Ints .u8 ((w5.alloc (.cells #[.int .u32 1732584193, .int .u32 4023233417, .int .u32 2562383102, .int .u32 271733878, .int .u32 3285377520] 140)).alloc (.cells (madeCells #[.int .u32 0] 80) 140)) A5 M :=
        hI5.below (((Below.refl _ _).alloc (Nat.le_refl _) _).alloc (by simp) _)
      have hgw : w.heap.size ≤ w5.heap.size + 1 := by have := hB5.size; omega
      have hgg : w5.heap.size ≠ w5.heap.size + 1 := by omega
      clear hI5 hB5 hmk
      generalize ((w5.alloc (.cells #[.int .u32 1732584193, .int .u32 4023233417, .int .u32 2562383102, .int .u32 271733878, .int .u32 3285377520] 140)).alloc (.cells (madeCells #[.int .u32 0] 80) 140)) = w7 at *
      generalize w5.heap.size + 1 = gw at *
      generalize w5.heap.size = gh0 at *
      generalize hnb : M.length / 64 = nb at *
      have HNB := Lib.hid hnb
      clear hnb
      go_loopw [5, 7] (fun hs at_ wr => ∃ (i a gh : Nat), i ≤ nb ∧ Hid (a = 64 * i) ∧ a ≤ M.length ∧ at_ = .int .i64 a ∧ hs = .slice (some ⟨gh, 0, none⟩) 5 5 ∧ Cel wr gh 140 5 (hF (fb i h0 M)) ∧ gh ≠ gw ∧ (∃ l, Pre wr gw 140 80 .u32 l) ∧ Ints .u8 wr A5 M ∧ Below w.heap.size w wr) (fun _ at_ _ => M.length - (intOf at_).toNat)
      case atStart => exact ⟨0, 0, gh0, Nat.zero_le _, rfl, Nat.zero_le _, rfl, rfl, hcel, hgg, ⟨_, hpre⟩, hI7, hB7⟩
      case round =>
        clear hcel hpre hI7 hB7 hgg
        obtain ⟨i, a, gh, hi8, ha8, haM, rfl, rfl, hc, hgg, ⟨l0, hpre⟩, hI, hB⟩ := hrel
        have hpre : Pre wr gw 140 80 .u32 [] := by
          obtain ⟨cs, h1, h2, h3, h4⟩ := hpre
          exact ⟨cs, h1, h2, by simp, fun j hj => by simp at hj⟩
        have hML := Lib.hid hMd
        have hok8 := fb_ok i h0 M h0_ok
        have FS : Hid (fb (i + 1) h0 M = mixH (fb i h0 M) (M.drop (64 * i))) := fb_succ i h0 M
        by_cases hlt : a < M.length
        · have hin : i < nb := by have := ha8.out; have := hML.out; omega
          have hr64 : a + 64 ≤ M.length := by have := ha8.out; have := hML.out; omega
          have hrd : ∀ j, (M.drop (64 * i)).getD j 0 = M.getD (a + j) 0 := fun j => by
            rw [ha8.out]; simp [List.getD_eq_getElem?_getD]
          have hSC0 : schedTo (M.drop (64 * i)) 0 = [] := rfl
          rw [← hSC0] at hpre
          clear hMd hSC0
          generalize hK : fb i h0 M = K at *
          have HK := Lib.hid hK
          clear hK
          generalize hr : M.drop (64 * i) = r at *
          have HRR := Lib.hid hr
          clear hr
          have hIo := hI
          obtain ⟨b, o, rfl, hbl, hcell⟩ := hI (by omega)
          have hbg : b ≠ gw := fun h => by subst h; exact hA5 o (by omega) rfl
          obtain ⟨wo, rfl⟩ : ∃ wo : World, wo = wr := ⟨_, rfl⟩
          go_wp2
          go_loopw [8] (fun t wr => ∃ k : Nat, k ≤ 80 ∧ t = .int .i64 k ∧ Pre wr gw 140 80 .u32 (schedTo r k) ∧ Chg (fun q => q = gw) wo wr) (fun t _ => 80 - (intOf t).toNat)
          case atStart => exact ⟨0, by omega, rfl, hpre, Chg.refl _ _⟩
          case round =>
            clear hpre
            obtain ⟨k, hk, rfl, hP, hCh⟩ := hrel
            have hl := schedTo_len r k
            by_cases hlk : k < 80
            · obtain ⟨v0, hv0⟩ := hP.some_ (j := k) hlk
              have hf0 := hP.frozen k
              have q4 : (k : Int) < 80 := by omega
              by_cases h16 : k < 16
              · have hcl : ∀ j, j < M.length → wr.cell? ⟨b, o + j, none⟩ = some (.int .u8 (M.getD j 0)) := fun j hj => (World.cell?_of_block (hCh.block b hbl hbg)).trans (hcell j hj)
                have c0 := hcl (a + 4 * k) (by omega)
                have c1 := hcl (a + 4 * k + 1) (by omega)
                have c2 := hcl (a + 4 * k + 2) (by omega)
                have c3 := hcl (a + 4 * k + 3) (by omega)
                have r0 := hMb.at_ (a + 4 * k) (by omega)
                have r1 := hMb.at_ (a + 4 * k + 1) (by omega)
                have r2 := hMb.at_ (a + 4 * k + 2) (by omega)
                have r3 := hMb.at_ (a + 4 * k + 3) (by omega)
                have l0 : (a : Int) + 4 * k < M.length := by omega
                have l1 : (a : Int) + 4 * k + 1 < M.length := by omega
                have l2 : (a : Int) + 4 * k + 2 < M.length := by omega
                have l3 : (a : Int) + 4 * k + 3 < M.length := by omega
                have HW : Hid (schedTo r (k + 1) = schedTo r k ++ [num4 (M.getD (a + 4 * k) 0) (M.getD (a + 4 * k + 1) 0) (M.getD (a + 4 * k + 2) 0) (M.getD (a + 4 * k + 3) 0)]) := by
                  show _ = _
                  rw [schedTo, if_pos h16, wordAt, hrd, hrd, hrd, hrd]; rfl
                have HLk := Lib.hid hl
                clear hcl hcell hl hrd
                generalize M.getD (a + 4 * k) 0 = b0 at *
                generalize M.getD (a + 4 * k + 1) 0 = b1 at *
                generalize M.getD (a + 4 * k + 2) 0 = b2 at *
                generalize M.getD (a + 4 * k + 3) 0 = b3 at *
                have n0 : ((a : Int) + 4 * k).toNat = a + 4 * k := by omega
                have n1 : ((a : Int) + 4 * k + 1).toNat = a + 4 * k + 1 := by omega
                have n2 : ((a : Int) + 4 * k + 2).toNat = a + 4 * k + 2 := by omega
                have n3 : ((a : Int) + 4 * k + 3).toNat = a + 4 * k + 3 := by omega
                have g1 : IntKind.i64.wrap ((a : Int) + 4 * k + 1) = (a : Int) + 4 * k + 1 := by exact IntWalk.i64_in _ (by omega)
                have g2 : IntKind.i64.wrap ((a : Int) + 4 * k + 2) = (a : Int) + 4 * k + 2 := by exact IntWalk.i64_in _ (by omega)
                have g3 : IntKind.i64.wrap ((a : Int) + 4 * k + 3) = (a : Int) + 4 * k + 3 := by exact IntWalk.i64_in _ (by omega)
                have p0 : 0 ≤ (a : Int) + 4 * k := by omega
                have p1 : 0 ≤ (a : Int) + 4 * k + 1 := by omega
                have p2 : 0 ≤ (a : Int) + 4 * k + 2 := by omega
                have p3 : 0 ≤ (a : Int) + 4 * k + 3 := by omega
                have v0 : IntKind.u32.wrap b0 = b0 := by rw [IntKind.wrap_u32']; omega
                have v1 : IntKind.u32.wrap b1 = b1 := by rw [IntKind.wrap_u32']; omega
                have v2 : IntKind.u32.wrap b2 = b2 := by rw [IntKind.wrap_u32']; omega
                have v3 : IntKind.u32.wrap b3 = b3 := by rw [IntKind.wrap_u32']; omega
                have x0 : IntKind.u32.wrap (b0 * 16777216) = b0 * 16777216 := by rw [IntKind.wrap_u32']; omega
                have x1 : IntKind.u32.wrap (b1 * 65536) = b1 * 65536 := by rw [IntKind.wrap_u32']; omega
                have x2 : IntKind.u32.wrap (b2 * 256) = b2 * 256 := by rw [IntKind.wrap_u32']; omega
                go_wp2
                refine wp_region_still_tail 32 (by kernel_rfl) (by kernel_rfl) ?_
                simp only [List.take_succ_cons, List.take_zero, List.drop_succ_cons, List.drop_zero]
                repeat still_step
                first | refine wpStill_nil ?_ | (trace_state; fail)
                change wpList _ _ _ _ _ wr.drew
                go_wp2
                go_roundw
                case rel =>
                  refine ⟨k + 1, by omega, by go_num, ?_, (hCh.drew).setCell (.inl rfl) _⟩
                  have hs := (hP.drew).snoc (by have := HLk.out; omega) (num4 b0 b1 b2 b3)
                  rw [HW.out]
                  rw [HLk.out] at hs
                  exact hs
                case measure => simp [intOf]; omega
              · have c0 := hP.cell (j := k - 3) (by omega)
                have c1 := hP.cell (j := k - 8) (by omega)
                have c2 := hP.cell (j := k - 14) (by omega)
                have c3 := hP.cell (j := k - 16) (by omega)
                have HW : Hid (schedTo r (k + 1) = schedTo r k ++ [rotN 1 (bits .xor .u32 (bits .xor .u32 (bits .xor .u32 ((schedTo r k).getD (k - 3) 0) ((schedTo r k).getD (k - 8) 0)) ((schedTo r k).getD (k - 14) 0)) ((schedTo r k).getD (k - 16) 0))]) := by
                  show _ = _
                  rw [schedTo, if_neg (by omega)]; rfl
                have HLk := Lib.hid hl
                clear hl hcell hrd
                generalize (schedTo r k).getD (k - 3) 0 = b0 at *
                generalize (schedTo r k).getD (k - 8) 0 = b1 at *
                generalize (schedTo r k).getD (k - 14) 0 = b2 at *
                generalize (schedTo r k).getD (k - 16) 0 = b3 at *
                have hx := bits_u32 .xor (bits .xor .u32 (bits .xor .u32 b0 b1) b2) b3
                have n0 : (((k : Int) - 3)).toNat = k - 3 := by omega
                have n1 : (((k : Int) - 8)).toNat = k - 8 := by omega
                have n2 : (((k : Int) - 14)).toNat = k - 14 := by omega
                have n3 : (((k : Int) - 16)).toNat = k - 16 := by omega
                have g0 : IntKind.i64.wrap ((k : Int) - 3) = (k : Int) - 3 := by exact IntWalk.i64_in _ (by omega)
                have g1 : IntKind.i64.wrap ((k : Int) - 8) = (k : Int) - 8 := by exact IntWalk.i64_in _ (by omega)
                have g2 : IntKind.i64.wrap ((k : Int) - 14) = (k : Int) - 14 := by exact IntWalk.i64_in _ (by omega)
                have g3 : IntKind.i64.wrap ((k : Int) - 16) = (k : Int) - 16 := by exact IntWalk.i64_in _ (by omega)
                have p0 : (3 : Int) ≤ k := by omega
                have p1 : (8 : Int) ≤ k := by omega
                have p2 : (14 : Int) ≤ k := by omega
                have p3 : (16 : Int) ≤ k := by omega
                have q0 : (k : Int) - 3 < 80 := by omega
                have q1 : (k : Int) - 8 < 80 := by omega
                have q2 : (k : Int) - 14 < 80 := by omega
                have q3 : (k : Int) - 16 < 80 := by omega
                have o0 : 0 ≤ (k : Int) - 3 := by omega
                have o1 : 0 ≤ (k : Int) - 8 := by omega
                have o2 : 0 ≤ (k : Int) - 14 := by omega
                have o3 : 0 ≤ (k : Int) - 16 := by omega
                have z3 : k - 3 ≠ k := by omega
                have z8 : k - 8 ≠ k := by omega
                have z14 : k - 14 ≠ k := by omega
                have z16 : k - 16 ≠ k := by omega
                go_wp2
                go_region_held3 (fun w' => w'.cell? ⟨gw, k - 3, none⟩ = some (.int .u32 b0) ∧ w'.cell? ⟨gw, k - 8, none⟩ = some (.int .u32 b1) ∧ w'.cell? ⟨gw, k - 14, none⟩ = some (.int .u32 b2) ∧ w'.cell? ⟨gw, k - 16, none⟩ = some (.int .u32 b3)) (first | go_keep | (refine ⟨?_, ?_, ?_, ?_⟩ <;> (rw [cell_beside _ _ _ _ _ (Ne.symm (by assumption))]; assumption))) ((go_at_call 79; refine (rol_any _ _ _ hx.1 hx.2 (.inl rfl)).mono ?_; rintro e w' ⟨rfl, nq, rfl⟩))
                go_wp2
                go_roundw
                case rel =>
                  refine ⟨k + 1, by omega, by go_num, ?_, ?_⟩
                  · have hs := (hP.drewN (1 + nq)).snoc (by have := HLk.out; omega) (rotN 1 (bits .xor .u32 (bits .xor .u32 (bits .xor .u32 b0 b1) b2) b3))
                    rw [HW.out]
                    rw [HLk.out] at hs
                    exact hs
                  · exact (hCh.drewN (1 + nq)).setCell (.inl rfl) _
                case measure => simp [intOf]; omega
            · obtain rfl : k = 80 := by omega
              have hc3 := hc.chg hCh hgg
              have k0 : wr.cell? ⟨gh, 0, none⟩ = some (.int .u32 K.a) := hc3.cell 0 (by decide)
              have k1 : wr.cell? ⟨gh, 1, none⟩ = some (.int .u32 K.b) := hc3.cell 1 (by decide)
              have k2 : wr.cell? ⟨gh, 2, none⟩ = some (.int .u32 K.c) := hc3.cell 2 (by decide)
              have k3 : wr.cell? ⟨gh, 3, none⟩ = some (.int .u32 K.d) := hc3.cell 3 (by decide)
              have k4 : wr.cell? ⟨gh, 4, none⟩ = some (.int .u32 K.e) := hc3.cell 4 (by decide)
              clear hcell hrd hl hlk
              go_wp2
              go_loopw [10, 11, 12, 13, 14, 15] (fun sx sy sz su sv t w4 => ∃ q : Nat, q ≤ 80 ∧ t = .int .i64 q ∧ sx = .int .u32 (runH r K q).a ∧ sy = .int .u32 (runH r K q).b ∧ sz = .int .u32 (runH r K q).c ∧ su = .int .u32 (runH r K q).d ∧ sv = .int .u32 (runH r K q).e ∧ Drawn wr w4) (fun _ _ _ _ _ t _ => 80 - (intOf t).toNat)
              case atStart => exact ⟨0, by omega, rfl, rfl, rfl, rfl, rfl, rfl, ⟨0, rfl⟩⟩
              case round =>
                obtain ⟨q, hq, rfl, rfl, rfl, rfl, rfl, rfl, hdr⟩ := hrel
                have hokq := runH_ok r K hok8 q
                by_cases hlq : q < 80
                · have HST : Hid (runH r K (q + 1) = stepH r q (runH r K q)) := rfl
                  generalize runH r K q = st at *
                  obtain ⟨⟨j1, j2⟩, ⟨j3, j4⟩, ⟨j5, j6⟩, ⟨j7, j8⟩, ⟨j9, j10⟩⟩ := hokq
                  have cW := (hdr.cell _).trans (hP.cell (j := q) (by rw [schedTo_len]; exact hlq))
                  have qI : (q : Int) < 80 := by omega
                  generalize hwv : (schedTo r 80).getD q 0 = wv at cW
                  have HWV := Lib.hid hwv
                  clear hwv
                  have hsg := u32_unsigned
                  obtain ⟨w4, rfl⟩ : ∃ w4 : World, w4 = wr := ⟨_, rfl⟩
                  go_upto_block 8 with (fail)
                  go_cut [16, 17] (fun f kk wx => f = .int .u32 (fT q st.b st.c st.d) ∧ kk = .int .u32 (kT q) ∧ w4 = wx)
                  case first =>
                    by_cases h60 : 60 ≤ q
                    · have HF : Hid (∀ b c d, fT q b c d = fPar b c d) := fun b c d => by unfold fT; rw [if_neg (by omega), if_neg (by omega), if_neg (by omega)]
                      have HKc : Hid (kT q = 3395469782) := by show _ = _; unfold kT; rw [if_neg (by omega), if_neg (by omega), if_neg (by omega)]
                      have hI60 : (60 : Int) ≤ q := by omega
                      go_wp2
                      go_meet
                      exact ⟨by rw [HF.out]; rfl, by rw [HKc.out], rfl⟩
                    · by_cases h40 : 40 ≤ q
                      · have HF : Hid (∀ b c d, fT q b c d = fMaj b c d) := fun b c d => by unfold fT; rw [if_neg (by omega), if_neg (by omega), if_pos (by omega)]
                        have HKc : Hid (kT q = 2400959708) := by show _ = _; unfold kT; rw [if_neg (by omega), if_neg (by omega), if_pos (by omega)]
                        have hI60 : decide ((60 : Int) ≤ q) = false := by simp; omega
                        have hI40 : (40 : Int) ≤ q := by omega
                        clear h60 h40
                        go_wp2
                        go_meet
                        exact ⟨by rw [HF.out]; rfl, by rw [HKc.out], rfl⟩
                      · by_cases h20 : 20 ≤ q
                        · have HF : Hid (∀ b c d, fT q b c d = fPar b c d) := fun b c d => by unfold fT; rw [if_neg (by omega), if_pos (by omega)]
                          have HKc : Hid (kT q = 1859775393) := by show _ = _; unfold kT; rw [if_neg (by omega), if_pos (by omega)]
                          have hI60 : decide ((60 : Int) ≤ q) = false := by simp; omega
                          have hI40 : decide ((40 : Int) ≤ q) = false := by simp; omega
                          have hI20 : (20 : Int) ≤ q := by omega
                          clear h60 h40 h20
                          go_wp2
                          go_meet
                          exact ⟨by rw [HF.out]; rfl, by rw [HKc.out], rfl⟩
                        · have HF : Hid (∀ b c d, fT q b c d = fCh b c d) := fun b c d => by unfold fT; rw [if_pos (by omega)]
                          have HKc : Hid (kT q = 1518500249) := by show _ = _; unfold kT; rw [if_pos (by omega)]
                          have hI60 : decide ((60 : Int) ≤ q) = false := by simp; omega
                          have hI40 : decide ((40 : Int) ≤ q) = false := by simp; omega
                          have hI20 : decide ((20 : Int) ≤ q) = false := by simp; omega
                          clear h60 h40 h20
                          go_wp2
                          go_meet
                          exact ⟨by rw [HF.out]; rfl, by rw [HKc.out], rfl⟩
                  case rest =>
                    obtain ⟨rfl, rfl, rfl⟩ := hcut
                    go_wp2
                    go_quiet ((go_at_call 79; exact Calls.quiet_of (rol_any _ _ _ j1 j2 (.inr (.inl rfl)))))
                    go_wp2_with (go_at_call 79; refine (rol_any _ _ _ j3 j4 (.inr (.inr rfl))).mono ?_; rintro e w' ⟨rfl, nq2, rfl⟩)
                    go_roundw
                    case rel =>
                      (repeat apply Exists.intro)
                      refine ⟨?_, rfl⟩
                      exact ⟨q + 1, by omega, by go_num, by rw [HST.out, stepH, HWV.out], by rw [HST.out, stepH], by rw [HST.out, stepH], by rw [HST.out, stepH], by rw [HST.out, stepH], by rw [← World.drewN_drewN]; exact (hdr.more _).more _⟩
                    case measure => simp [intOf]; omega
                · obtain rfl : q = 80 := by omega
                  obtain ⟨w4, rfl⟩ : ∃ w4 : World, w4 = wr := ⟨_, rfl⟩
                  have m0 := (hdr.cell _).trans k0
                  have m1 := (hdr.cell _).trans k1
                  have m2 := (hdr.cell _).trans k2
                  have m3 := (hdr.cell _).trans k3
                  have m4 := (hdr.cell _).trans k4
                  have hmx : mixH K r = ⟨(K.a + (runH r K 80).a) % 4294967296, (K.b + (runH r K 80).b) % 4294967296, (K.c + (runH r K 80).c) % 4294967296, (K.d + (runH r K 80).d) % 4294967296, (K.e + (runH r K 80).e) % 4294967296⟩ := rfl
                  generalize runH r K 80 = st at *
                  rw [hmx] at FS
                  clear hmx hlq
                  go_wp2
                  refine wp_region_still_tail 25 (by kernel_rfl) (by kernel_rfl) ?_
                  simp only [List.take_succ_cons, List.take_zero, List.drop_succ_cons, List.drop_zero]
                  repeat still_step
                  first | refine wpStill_nil ?_ | (trace_state; fail)
                  change wpList _ _ _ _ _ w4.drew
                  go_wp2
                  go_roundw
                  case rel =>
                    have hPb := hP.blk
                    have hh4 := hdr.heap
                    have hgs : gw < w4.heap.size := by rw [hh4]; exact hPb
                    have hCh4 : Chg (fun q => q = gw) wo w4 := by obtain ⟨nd, rfl⟩ := hdr; exact hCh.drewN nd
                    have hB4 : Below w.heap.size w w4 := hB.trans (hCh4.below hB.size (fun q hq hh => by subst hh; omega))
                    have hC4 := hCh4.alloc (.cells #[Value.int IntKind.u32 ((K.a + st.a) % 4294967296), Value.int IntKind.u32 ((K.b + st.b) % 4294967296), Value.int IntKind.u32 ((K.c + st.c) % 4294967296), Value.int IntKind.u32 ((K.d + st.d) % 4294967296), Value.int IntKind.u32 ((K.e + st.e) % 4294967296)] 140)
                    refine ⟨i + 1, a + 64, w4.heap.size, by omega, by have := ha8.out; show _ = _; omega, hr64, by go_num, rfl, (Cel.newH w4 140 _ _ _ _ _ _ FS.out).drew, by omega, ⟨_, ((hP.same (w' := w4) (by rw [hh4])).same (heap_alloc_old w4 _ hgs)).drew⟩, ?_, (hB4.alloc hB4.size _).drew⟩
                    exact hIo.chg (hC4.drew) (fun b' o' hb' hh => by injection hb' with hb'; injection hb' with hb' _ _; exact hbg (by rw [hb', hh]))
                  case measure => simp [intOf]; omega
        · have hin : i = nb := by have := ha8.out; have := hML.out; omega
          subst hin
          have k0 : wr.cell? ⟨gh, 0, none⟩ = some (.int .u32 (fb i h0 M).a) := hc.cell 0 (by decide)
          have k1 : wr.cell? ⟨gh, 1, none⟩ = some (.int .u32 (fb i h0 M).b) := hc.cell 1 (by decide)
          have k2 : wr.cell? ⟨gh, 2, none⟩ = some (.int .u32 (fb i h0 M).c) := hc.cell 2 (by decide)
          have k3 : wr.cell? ⟨gh, 3, none⟩ = some (.int .u32 (fb i h0 M).d) := hc.cell 3 (by decide)
          have k4 : wr.cell? ⟨gh, 4, none⟩ = some (.int .u32 (fb i h0 M).e) := hc.cell 4 (by decide)
          have hbk := hc.blk
          clear hMd FS
          generalize hK : fb i h0 M = K at *
          have HK := Lib.hid hK
          clear hK
          have hI5 : Ints .u32 wr (some ⟨gh, 0, none⟩) [K.a, K.b, K.c, K.d, K.e] := fun _ => ⟨gh, 0, rfl, hbk, fun j hj => by
            match j, hj with
            | 0, _ => exact k0
            | 1, _ => exact k1
            | 2, _ => exact k2
            | 3, _ => exact k3
            | 4, _ => exact k4⟩
          obtain ⟨h1, h2, h3, h4, h5⟩ := hok8
          have hW5 : Words [K.a, K.b, K.c, K.d, K.e] := by
            intro x hx
            simp only [List.mem_cons, List.not_mem_nil, or_false] at hx
            rcases hx with rfl | rfl | rfl | rfl | rfl <;> assumption
          clear k0 k1 k2 k3 k4
          go_wp2_with fail
          refine (words_any (some ⟨gh, 0, none⟩) 5 5 _ wr hI5 rfl hW5 (by decide)).mono ?_
          rintro e w8 h8
          have hE : wordsL [K.a, K.b, K.c, K.d, K.e] = shaTo K 5 := by
            simp [wordsL, shaTo, H5.nth]
          rw [hE] at h8
          obtain ⟨A8, c8, rfl, ho8, hb8⟩ := AskPost.below hB h8
          have HE := Lib.hid hE
          clear hE
          go_wp2
          go_ret
          exact ⟨A8, c8, rfl, ho8, hb8⟩
end Go.Proofs.YtihanglnjghcfaaGreatDoor
namespace Go.Proofs.YtihanglnjghcfaaGreatDoor
open Go.RowKit
set_option linter.unusedVariables false

/-- A digit's number; none: it is none. -/
def dig (c : Int) : Option Int := if 48 ≤ c ∧ c ≤ 57 then some (c - 48) else if 97 ≤ c ∧ c ≤ 102 then some (c - 87) else none
def digP (c : Int) (e : Ending) : Prop := e = .returned (.tuple #[.int .u8 ((dig c).getD 0), .bool (dig c).isSome])

set_option maxRecDepth 100000 in
theorem digit_any (c : Int) (w : World) (h0 : 0 ≤ c) (h1 : c < 256) : Calls Tryz.prog 144 #[.int .u8 c] w fun e w' => digP c e ∧ w = w' := by
  by_cases ha : 48 ≤ c
  · by_cases hb : c ≤ 57
    · have hd : dig c = some (c - 48) := if_pos ⟨ha, hb⟩
      go_enter Tryz.func144, Tryz.ntmps144
      go_wp2
      go_ret2
      exact ⟨by unfold digP; rw [hd]; rfl, rfl⟩
    · by_cases h2 : 97 ≤ c
      · by_cases h3 : c ≤ 102
        · have hd : dig c = some (c - 87) := by unfold dig; rw [if_neg (by omega), if_pos ⟨h2, h3⟩]
          go_enter Tryz.func144, Tryz.ntmps144
          go_wp2
          go_ret2
          refine ⟨?_, rfl⟩
          unfold digP
          rw [hd]
          simp
          omega
        · have hd : dig c = none := by unfold dig; rw [if_neg (by omega), if_neg (by omega)]
          go_enter Tryz.func144, Tryz.ntmps144
          go_wp2
          go_ret2
          exact ⟨by unfold digP; rw [hd]; rfl, rfl⟩
      · have hd : dig c = none := by unfold dig; rw [if_neg (by omega), if_neg (by omega)]
        go_enter Tryz.func144, Tryz.ntmps144
        go_wp2
        go_ret2
        exact ⟨by unfold digP; rw [hd]; rfl, rfl⟩
  · have hd : dig c = none := by unfold dig; rw [if_neg (by omega), if_neg (by omega)]
    have h2 : ¬ 97 ≤ c := by omega
    go_enter Tryz.func144, Tryz.ntmps144
    go_wp2
    go_ret2
    exact ⟨by unfold digP; rw [hd]; rfl, rfl⟩
end Go.Proofs.YtihanglnjghcfaaGreatDoor
