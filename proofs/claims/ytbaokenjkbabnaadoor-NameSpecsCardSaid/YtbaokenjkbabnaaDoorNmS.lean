/- Refspecs, plain: one star; what is read out of a text; what a name becomes. No program's function is named here. -/
import Derived.Test.YtbaokenjkbabnaaDoorNmP
namespace Go.Proofs.YtbaokenjkbabnaaDoor
set_option linter.unusedVariables false

def mk (l : List UInt8) : ByteArray := ⟨l.toArray⟩
theorem mk_data (l : List UInt8) : (mk l).data.toList = l := rfl
theorem mk_size (l : List UInt8) : (mk l).size = l.length := by rw [Lib.size_eq, mk_data]
theorem mk_of (s : ByteArray) : mk s.data.toList = s := Lib.mk_data s
theorem mk_ext (s : ByteArray) (a b : Nat) : s.extract a b = mk ((s.data.toList.drop a).take (b - a)) := Lib.extract_eq s a b
theorem mk_ext0 (s : ByteArray) (b : Nat) : s.extract 0 b = mk (s.data.toList.take b) := by rw [mk_ext]; simp
theorem mk_extE (s : ByteArray) (a : Nat) : s.extract a s.size = mk (s.data.toList.drop a) := by
  rw [mk_ext, List.take_of_length_le (by rw [List.length_drop, ← Lib.size_eq]; exact Nat.le_refl _)]
theorem mk_app (a b : List UInt8) : mk a ++ mk b = mk (a ++ b) := by
  unfold mk
  apply ByteArray.ext
  simp
theorem mk_inj {a b : List UInt8} : mk a = mk b ↔ a = b := ⟨fun h => by have := congrArg (fun s => s.data.toList) h; exact this, fun h => by rw [h]⟩

/-- The first place of a byte. -/
theorem idx_cases (c : UInt8) : ∀ (l : List UInt8), (Lib.indexByte l c = -1 ∧ c ∉ l) ∨ ∃ i : Nat, Lib.indexByte l c = i ∧ i < l.length ∧ l[i]? = some c ∧ c ∉ l.take i
  | [] => .inl ⟨rfl, by simp⟩
  | b :: l => by
    unfold Lib.indexByte
    by_cases h : b = c
    · subst h
      exact .inr ⟨0, by rw [if_pos (by simp)]; rfl, by simp, rfl, by simp⟩
    · have hb : (b == c) = false := by simpa using h
      rw [hb, if_neg (by decide)]
      rcases idx_cases c l with ⟨h1, h2⟩ | ⟨i, h1, h2, h3, h4⟩
      · left
        rw [h1]
        exact ⟨rfl, by simp [h2]; exact fun e => h e.symm⟩
      · right
        refine ⟨i + 1, ?_, by simp; omega, by simpa using h3, by simp [h4]; exact fun e => h e.symm⟩
        have : ((i : Int) == -1) = false := by rw [beq_eq_false_iff_ne]; omega
        rw [h1, this, if_neg (by decide)]
        rfl
def idx (l : List UInt8) (c : UInt8) : Nat := (Lib.indexByte l c).toNat
theorem count_cut (l : List UInt8) (c : UInt8) (i : Nat) (h2 : i < l.length) (h3 : l[i]? = some c) (h4 : c ∉ l.take i) : l.count c = 1 + (l.drop (i + 1)).count c := by
  conv => lhs; rw [← List.take_append_drop i l]
  rw [List.count_append, List.count_eq_zero.2 h4, List.drop_eq_getElem_cons h2, (List.getElem?_eq_some_iff.1 h3).2, List.count_cons_self]
  omega
theorem idx_none {l : List UInt8} {c : UInt8} : l.count c = 0 ↔ Lib.indexByte l c = -1 := by
  rcases idx_cases c l with ⟨h1, h2⟩ | ⟨i, h1, h2, h3, h4⟩
  · exact ⟨fun _ => h1, fun _ => List.count_eq_zero.2 h2⟩
  · constructor
    · intro h; have := count_cut l c i h2 h3 h4; omega
    · intro h; omega
/-- The star's place taken by a text. -/
def subst (l x : List UInt8) : List UInt8 := l.take (idx l 42) ++ x ++ l.drop (idx l 42 + 1)
def sideL (l : List UInt8) : Bool × Bool := (decide (l.count 42 < 2) && validN (if l.count 42 = 1 then subst l [120] else l), decide (l.count 42 = 1))
structure Sp where
  f : Bool
  src : List UInt8
  dst : List UInt8
  deriving DecidableEq
/-- A text without its plus; its two sides; is there a colon? -/
def plusL (l : List UInt8) : Bool := Lib.hasPrefix l [43]
def bodyL (l : List UInt8) : List UInt8 := if plusL l then l.drop 1 else l
def colonL (l : List UInt8) : Bool := decide (l.count 58 ≠ 0)
def srcL (l : List UInt8) : List UInt8 := if colonL l then l.take (idx l 58) else l
def dstL (l : List UInt8) : List UInt8 := if colonL l then l.drop (idx l 58 + 1) else l
def okL (src dst : List UInt8) (colon : Bool) : Bool :=
  (sideL dst).1 && ((if src = [] then colon else (sideL src).1) && ((if src = [] then false else (sideL src).2) == (sideL dst).2))
def parseL (l : List UInt8) : Option Sp :=
  if okL (srcL (bodyL l)) (dstL (bodyL l)) (colonL (bodyL l)) then some ⟨plusL l, srcL (bodyL l), dstL (bodyL l)⟩ else none
def textL (p : Sp) : List UInt8 := (if p.f then [43] else []) ++ (p.src ++ ([58] ++ p.dst))
/-- What stands for the star. -/
def midOk (p : Sp) (t : List UInt8) : Bool := Lib.hasPrefix t (p.src.take (idx p.src 42)) && Lib.hasSuffix (t.drop (idx p.src 42)) (p.src.drop (idx p.src 42 + 1))
def midL (p : Sp) (t : List UInt8) : List UInt8 := (t.drop (idx p.src 42)).take (t.length - idx p.src 42 - (p.src.length - (idx p.src 42 + 1)))
def mapL (p : Sp) (t : List UInt8) : Option (List UInt8) :=
  if p.src.count 42 = 0 then (if t = p.src ∧ validN p.dst = true then some p.dst else none)
  else if midOk p t && validN (subst p.dst (midL p t)) then some (subst p.dst (midL p t)) else none
/-- What a spec that was read has. -/
structure Good (p : Sp) : Prop where
  s1 : p.src.count 42 ≤ 1
  d1 : p.dst.count 42 ≤ 1
  eq : p.src.count 42 = p.dst.count 42
  sl : p.src.length ≤ 100
  dl : p.dst.length ≤ 100
theorem validN_le {l : List UInt8} (h : validN l = true) : l.length ≤ 100 := by
  unfold validN at h
  simp at h
  exact h.2.1
theorem subst_len (l x : List UInt8) (h : l.count 42 ≠ 0) : (subst l x).length + 1 = l.length + x.length := by
  rcases idx_cases 42 l with ⟨h1, h2⟩ | ⟨i, h1, h2, h3, h4⟩
  · exact absurd (List.count_eq_zero.2 h2) h
  · unfold subst idx
    rw [h1, Int.toNat_natCast]
    simp only [List.length_append, List.length_take, List.length_drop]
    omega
theorem side_good {l : List UInt8} (h : (sideL l).1 = true) : l.count 42 ≤ 1 ∧ l.length ≤ 100 := by
  unfold sideL at h
  rw [Bool.and_eq_true, decide_eq_true_eq] at h
  refine ⟨by omega, ?_⟩
  by_cases hc : l.count 42 = 1
  · rw [if_pos hc] at h
    have := validN_le h.2
    have := subst_len l [120] (by omega)
    simp at this
    omega
  · rw [if_neg hc] at h
    exact validN_le h.2
theorem parse_good {l : List UInt8} {p : Sp} (h : parseL l = some p) : Good p ∧ okL p.src p.dst (colonL (bodyL l)) = true ∧ p = ⟨plusL l, srcL (bodyL l), dstL (bodyL l)⟩ := by
  unfold parseL at h
  split at h
  · rename_i hk
    injection h with h
    subst h
    refine ⟨?_, hk, rfl⟩
    have hk2 := hk
    unfold okL at hk
    rw [Bool.and_eq_true, Bool.and_eq_true, beq_iff_eq] at hk
    obtain ⟨k1, k2, k3⟩ := hk
    have hd := side_good k1
    by_cases he : srcL (bodyL l) = []
    · rw [if_pos he] at k3
      refine ⟨by rw [he]; simp, hd.1, ?_, by rw [he]; simp, hd.2⟩
      show (srcL (bodyL l)).count 42 = _
      rw [he]
      have : decide ((dstL (bodyL l)).count 42 = 1) = false := k3.symm
      have := of_decide_eq_false this
      have := hd.1
      simp
      omega
    · rw [if_neg he] at k2 k3
      have hs := side_good k2
      have e : decide ((srcL (bodyL l)).count 42 = 1) = decide ((dstL (bodyL l)).count 42 = 1) := k3
      rw [decide_eq_decide] at e
      refine ⟨hs.1, hd.1, ?_, hs.2, hd.2⟩
      have h1 := hs.1
      have h2 := hd.1
      show (srcL (bodyL l)).count 42 = (dstL (bodyL l)).count 42
      omega
  · cases h
end Go.Proofs.YtbaokenjkbabnaaDoor
