/- Plain words for an index of a pack: what its bytes say. -/
import Derived.Test.YtndjebddgnmpfaaSumHex
import Derived.Test.YtndjebddgnmpfaaSumTopS
import Derived.Test.YtndjebddgnmpfaaBitI
namespace Go.Proofs.Ytndjebddgnmpfaa
open Go.RowKit
set_option linter.unusedVariables false
set_option linter.unusedSimpArgs false

theorem Bytes.drop {xs : List Int} (h : Bytes xs) (k : Nat) : Bytes (xs.drop k) := fun x hx => h x (List.mem_of_mem_drop hx)
/-- The order of texts, byte by byte. -/
def ltL : List Int → List Int → Bool
  | [], [] => false
  | [], _ :: _ => true
  | _ :: _, [] => false
  | x :: xs, y :: ys => decide (x < y) || (decide (x = y) && ltL xs ys)
theorem ltL_irr : ∀ x : List Int, ltL x x = false
  | [] => rfl
  | x :: xs => by simp [ltL, ltL_irr xs]
theorem ltL_tot : ∀ x y : List Int, (!ltL x y) = (ltL y x || decide (y = x))
  | [], [] => rfl
  | [], _ :: _ => rfl
  | _ :: _, [] => rfl
  | x :: xs, y :: ys => by
    have ih := ltL_tot xs ys
    simp only [ltL, List.cons.injEq]
    by_cases h1 : x < y
    · have h2 : ¬ y < x := by omega
      have h3 : ¬ x = y := by omega
      have h4 : ¬ y = x := by omega
      simp [h1, h2, h3, h4]
    · by_cases h2 : y < x
      · have h3 : ¬ x = y := by omega
        simp [h1, h2, h3]
      · have h3 : x = y := by omega
        subst h3
        simp only [h1, decide_false, Bool.false_or, decide_true, Bool.true_and, true_and]
        exact ih
theorem ltL_trans : ∀ {x y z : List Int}, ltL x y = true → ltL y z = true → ltL x z = true
  | [], [], _, h, _ => by simp [ltL] at h
  | [], _ :: _, [], _, h => by simp [ltL] at h
  | [], _ :: _, _ :: _, _, _ => rfl
  | _ :: _, [], _, h, _ => by simp [ltL] at h
  | _ :: _, _ :: _, [], _, h => by simp [ltL] at h
  | x :: xs, y :: ys, z :: zs, h1, h2 => by
    simp only [ltL, Bool.or_eq_true, Bool.and_eq_true, decide_eq_true_eq] at h1 h2 ⊢
    rcases h1 with h1 | ⟨h1, h3⟩
    · rcases h2 with h2 | ⟨h2, h4⟩
      · left; omega
      · left; omega
    · rcases h2 with h2 | ⟨h2, h4⟩
      · left; omega
      · right; exact ⟨by omega, ltL_trans h3 h4⟩
theorem less_str : ∀ (a b : List Int), Bytes a → Bytes b → Op.bytesLess (a.map fun x => UInt8.ofNat x.toNat) (b.map fun x => UInt8.ofNat x.toNat) = ltL a b
  | [], [], _, _ => rfl
  | [], _ :: _, _, _ => rfl
  | _ :: _, [], _, _ => rfl
  | x :: xs, y :: ys, ha, hb => by
    have hx := ha x (.head _)
    have hy := hb y (.head _)
    have ih := less_str xs ys (fun z hz => ha z (.tail _ hz)) (fun z hz => hb z (.tail _ hz))
    have h1 : decide (UInt8.ofNat x.toNat < UInt8.ofNat y.toNat) = decide (x < y) := by
      congr 1
      rw [UInt8.lt_iff_toNat_lt, UInt8.toNat_ofNat', UInt8.toNat_ofNat', Nat.mod_eq_of_lt (by omega), Nat.mod_eq_of_lt (by omega)]
      exact propext ⟨fun h => by omega, fun h => by omega⟩
    have h2 : (UInt8.ofNat x.toNat == UInt8.ofNat y.toNat) = decide (x = y) := by
      rw [Bool.eq_iff_iff, beq_iff_eq, decide_eq_true_eq, ← UInt8.toNat_inj, UInt8.toNat_ofNat', UInt8.toNat_ofNat', Nat.mod_eq_of_lt (by omega), Nat.mod_eq_of_lt (by omega)]
      exact ⟨fun h => by omega, fun h => by omega⟩
    simp only [List.map_cons, Op.bytesLess, ltL]
    rw [h1, h2, ih]
theorem str_toList (a : List Int) : (strOfNums a).toList = a.map fun x => UInt8.ofNat x.toNat := by
  rw [ByteArray.toList_eq]
  rfl
theorem str_less (a b : List Int) (ha : Bytes a) (hb : Bytes b) : Op.bytesLess (strOfNums a).toList (strOfNums b).toList = ltL a b := by
  rw [str_toList, str_toList, less_str a b ha hb]
theorem str_eq (a b : List Int) (ha : Bytes a) (hb : Bytes b) : ((strOfNums a).toList == (strOfNums b).toList) = decide (a = b) := by
  rw [Bool.eq_iff_iff, beq_iff_eq, decide_eq_true_eq, str_toList, str_toList]
  refine ⟨fun h => ?_, fun h => by rw [h]⟩
  have := congrArg (List.map fun x : UInt8 => ((x.toNat : Nat) : Int)) h
  have key : ∀ l : List Int, Bytes l → (l.map fun x => UInt8.ofNat x.toNat).map (fun x : UInt8 => ((x.toNat : Nat) : Int)) = l := fun l hl => by
    rw [List.map_map]
    refine (List.map_congr_left (g := id) fun x hx => ?_).trans (List.map_id l)
    have := hl x hx
    simp only [Function.comp, id]
    rw [UInt8.toNat_ofNat', Nat.mod_eq_of_lt (by omega)]
    omega
  rw [key a ha, key b hb] at this
  exact this
/-- Digits stand in the order of what they tell. -/
theorem hexd_lt (a b : Int) (ha : 0 ≤ a ∧ a < 16) (hb : 0 ≤ b ∧ b < 16) : (hexd a < hexd b ↔ a < b) ∧ (hexd a = hexd b ↔ a = b) := by
  unfold hexd
  constructor
  · split <;> split <;> omega
  · split <;> split <;> omega
theorem hexL_ok : ∀ {x : List Int}, Bytes x → Bytes (hexL x)
  | [], _ => fun _ h => by cases h
  | a :: xs, h => by
    have ha := h a (.head _)
    have ih := hexL_ok (fun z hz => h z (.tail _ hz))
    intro z hz
    rw [hexL, hexOf] at hz
    rcases List.mem_append.1 hz with hz | hz
    · rcases List.mem_cons.1 hz with rfl | hz
      · unfold hexd; split <;> omega
      · rw [List.mem_singleton.1 hz]; unfold hexd; split <;> omega
    · exact ih z hz
theorem hex_less : ∀ (x y : List Int), x.length = y.length → Bytes x → Bytes y → ltL (hexL x) (hexL y) = ltL x y
  | [], [], _, _, _ => rfl
  | [], _ :: _, h, _, _ => by simp at h
  | _ :: _, [], h, _, _ => by simp at h
  | a :: x, b :: y, h, hx, hy => by
    have ha := hx a (.head _)
    have hb := hy b (.head _)
    have ih := hex_less x y (by simpa using h) (fun z hz => hx z (.tail _ hz)) (fun z hz => hy z (.tail _ hz))
    have h1 := hexd_lt (a / 16) (b / 16) (by omega) (by omega)
    have h2 := hexd_lt (a % 16) (b % 16) (by omega) (by omega)
    simp only [hexL, hexOf, List.cons_append, List.nil_append, ltL, ih]
    rw [Bool.eq_iff_iff]
    simp only [Bool.or_eq_true, Bool.and_eq_true, decide_eq_true_eq, h1.1, h1.2, h2.1, h2.2]
    constructor
    · rintro (h | ⟨h, h' | ⟨h', h''⟩⟩)
      · left; omega
      · left; omega
      · right; exact ⟨by omega, h''⟩
    · rintro (h | ⟨h, h'⟩)
      · by_cases c : a / 16 < b / 16
        · exact .inl c
        · right; exact ⟨by omega, .inl (by omega)⟩
      · right; exact ⟨by omega, .inr ⟨by omega, h'⟩⟩
theorem hex_inj : ∀ {x y : List Int}, Bytes x → Bytes y → hexL x = hexL y → x = y
  | [], [], _, _, _ => rfl
  | [], _ :: _, _, _, h => by simp [hexL, hexOf] at h
  | _ :: _, [], _, _, h => by simp [hexL, hexOf] at h
  | a :: x, b :: y, hx, hy, h => by
    have ha := hx a (.head _)
    have hb := hy b (.head _)
    simp only [hexL, hexOf, List.cons_append, List.nil_append, List.cons.injEq] at h
    have h1 := (hexd_lt (a / 16) (b / 16) (by omega) (by omega)).2.1 h.1
    have h2 := (hexd_lt (a % 16) (b % 16) (by omega) (by omega)).2.1 h.2.1
    rw [show a = b by omega, hex_inj (fun z hz => hx z (.tail _ hz)) (fun z hz => hy z (.tail _ hz)) h.2.2]
/-- Four bytes as a number. -/
def n4 (b : List Int) (p : Nat) : Int := b.getD p 0 * 16777216 + b.getD (p + 1) 0 * 65536 + b.getD (p + 2) 0 * 256 + b.getD (p + 3) 0
theorem n4_bd {b : List Int} (h : Bytes b) (p : Nat) : 0 ≤ n4 b p ∧ n4 b p < 4294967296 := by
  have key : ∀ j, 0 ≤ b.getD j 0 ∧ b.getD j 0 < 256 := fun j => by
    by_cases hj : j < b.length
    · exact h.at_ j hj
    · rw [List.getD_eq_getElem?_getD, List.getElem?_eq_none (by omega)]; simp
  have h0 := key p
  have h1 := key (p + 1)
  have h2 := key (p + 2)
  have h3 := key (p + 3)
  unfold n4
  omega
theorem n4_drop (b : List Int) (p : Nat) : n4 (b.drop p) 0 = n4 b p := by
  have key : ∀ j, (b.drop p).getD j 0 = b.getD (p + j) 0 := fun j => by simp [List.getD_eq_getElem?_getD]
  unfold n4
  rw [key, key, key, key]
  rfl
def fan (b : List Int) (i : Nat) : Int := n4 b (8 + 4 * i)
def fansB (b : List Int) : Bool := (List.range 255).all fun i => decide (fan b i ≤ fan b (i + 1))
theorem fansB_iff (b : List Int) : fansB b = true ↔ ∀ i, i < 255 → fan b i ≤ fan b (i + 1) := by
  unfold fansB
  simp [List.all_eq_true]
def cntN (b : List Int) : Nat := (fan b 255).toNat
def idL (b : List Int) (i : Nat) : List Int := (b.drop (1032 + 20 * i)).take 20
def id0 (b : List Int) (i : Nat) : Nat := (b.getD (1032 + 20 * i) 0).toNat
def crcA (b : List Int) (n i : Nat) : Int := n4 b (1032 + 20 * n + 4 * i)
def atV (b : List Int) (n i : Nat) : Int := n4 b (1032 + 24 * n + 4 * i)
def farN (b : List Int) (n : Nat) : Nat → Nat
  | 0 => 0
  | i + 1 => farN b n i + (if 2147483648 ≤ atV b n i then 1 else 0)
def bigV (b : List Int) (n k : Nat) : Int := n4 b (1032 + 28 * n + 8 * k) * 4294967296 + n4 b (1032 + 28 * n + 8 * k + 4)
def locV (b : List Int) (n i : Nat) : Int := if 2147483648 ≤ atV b n i then bigV b n (farN b n i) else atV b n i
/-- An entry out of its order or its place. -/
def badO (b : List Int) (i : Nat) : Bool := (decide (0 < i) && !ltL (idL b (i - 1)) (idL b i)) || decide (fan b (id0 b i) ≤ (i : Int)) || (decide (0 < id0 b i) && decide ((i : Int) < fan b (id0 b i - 1)))
def badF (b : List Int) (n i : Nat) : Bool := decide (2147483648 ≤ atV b n i) && (decide (atV b n i ≠ 2147483648 + farN b n i) || (decide (bigV b n (farN b n i) < 2147483648) || decide (4611686018427387904 < bigV b n (farN b n i))))
def okToB (b : List Int) (n i : Nat) : Bool := (List.range i).all fun j => !badO b j && !badF b n j
theorem okToB_succ (b : List Int) (n i : Nat) : okToB b n (i + 1) = (okToB b n i && (!badO b i && !badF b n i)) := by
  unfold okToB
  rw [List.range_succ, List.all_append]
  simp
theorem okToB_false {b : List Int} {n i m : Nat} (h : okToB b n i = false) (him : i ≤ m) : okToB b n m = false := by
  induction m with
  | zero =>
    obtain rfl : i = 0 := by omega
    exact h
  | succ m ih =>
    by_cases c : i ≤ m
    · rw [okToB_succ, ih c]; rfl
    · obtain rfl : i = m + 1 := by omega
      exact h
theorem farN_mono (b : List Int) (n : Nat) {i j : Nat} (h : i ≤ j) : farN b n i ≤ farN b n j := by
  induction j with
  | zero =>
    obtain rfl : i = 0 := by omega
    exact Nat.le_refl _
  | succ j ih =>
    by_cases c : i ≤ j
    · rw [farN]; have := ih c; omega
    · obtain rfl : i = j + 1 := by omega
      exact Nat.le_refl _
theorem farN_le (b : List Int) (n i : Nat) : farN b n i ≤ i := by
  induction i with
  | zero => exact Nat.le_refl _
  | succ i ih => rw [farN]; split <;> omega
def magicL : List Int := [255, 116, 79, 99, 0, 0, 0, 2]
/-- The length that an index of so many entries has. -/
def wholeB (b : List Int) : Bool := decide (b.length = 1072 + 28 * cntN b + 8 * farN b (cntN b) (cntN b))
def headB (b : List Int) : Bool := decide (b.take 8 = magicL) && (fansB b && (decide (fan b 255 ≤ 4096) && decide (1072 + 28 * cntN b ≤ b.length)))
def accB (b : List Int) : Bool := headB b && (okToB b (cntN b) (cntN b) && wholeB b)
def sumB (b : List Int) : Bool := decide (shaAll (b.take (b.length - 20)) = b.drop (b.length - 20))
/-- The error that an index's bytes make. -/
def errV (b : List Int) : Int := if b.length < 1072 then 4 else if accB b = false then 3 else if sumB b = false then 6 else 0
/-- An entry. -/
structure Ent where
  id : List Int
  at_ : Int
  crc : Int
def entV (b : List Int) (n i : Nat) : Ent := ⟨hexL (idL b i), locV b n i, crcA b n i⟩
def entsL (b : List Int) : List Ent := (List.range (cntN b)).map (entV b (cntN b))
def packV (b : List Int) : List Int := hexL ((b.drop (b.length - 40)).take 20)
end Go.Proofs.Ytndjebddgnmpfaa
