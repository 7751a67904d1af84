/- Plain words for the sums: a string's bytes; a CRC by bits; four bytes as a number. -/
import Derived.Test.YtdlabapfcghfmaaGreatDoorSumWhl
namespace Go.Proofs.YtdlabapfcghfmaaGreatDoor
open Go.RowKit
set_option linter.unusedVariables false

def num4L (l : List Int) : Int := num4 (l.getD 0 0) (l.getD 1 0) (l.getD 2 0) (l.getD 3 0)
def bytesOf (s : ByteArray) : List Int := s.data.toList.map fun b => (b.toNat : Int)
theorem bytesOf_len (s : ByteArray) : (bytesOf s).length = s.size := by unfold bytesOf; rw [List.length_map, Array.length_toList]; rfl
theorem bytesOf_at (s : ByteArray) (k : Nat) (h : k < s.size) : (bytesOf s).getD k 0 = ((s[k]'h).toNat : Int) := by
  have h2 : k < s.data.toList.length := by rw [Array.length_toList]; exact h
  unfold bytesOf
  rw [List.getD_eq_getElem?_getD, List.getElem?_map, List.getElem?_eq_getElem h2, Array.getElem_toList]
  rfl
theorem bytesOf_ok (s : ByteArray) : Bytes (bytesOf s) := fun x hx => by
  obtain ⟨b, _, rfl⟩ := List.mem_map.1 hx
  have := b.toNat_lt
  omega

def rcStep (c x : Nat) : Nat := crcN 8 (c ^^^ x)
def rcTo (c : Nat) (xs : List Int) : Nat := xs.foldl (fun c x => rcStep c x.toNat) c
theorem rcTo_snoc (c : Nat) (xs : List Int) (x : Int) : rcTo c (xs ++ [x]) = rcStep (rcTo c xs) x.toNat := by unfold rcTo; rw [List.foldl_append]; rfl
theorem rcStep_lt (c x : Nat) (h : c < 4294967296) (hx : x < 256) : rcStep c x < 4294967296 :=
  crcN_lt 8 _ (Nat.xor_lt_two_pow (n := 32) (by omega) (by omega))
theorem rcTo_lt (c : Nat) (xs : List Int) (hc : c < 4294967296) (hx : Bytes xs) : rcTo c xs < 4294967296 := by
  unfold rcTo
  induction xs generalizing c with
  | nil => exact hc
  | cons x xs ih =>
    have := hx x (by simp)
    exact ih _ (rcStep_lt _ _ hc (by omega)) (fun y hy => hx y (by simp [hy]))
theorem crcBit_one (c : Nat) (h : c % 2 = 1) : crcBit c = (c / 2) ^^^ 3988292384 := if_pos h
theorem crcBit_zero (c : Nat) (h : ¬ c % 2 = 1) : crcBit c = c / 2 := if_neg h
theorem OwnS.of_str (w : World) (s : ByteArray) (e : TypeId) (c : Nat) (h1 : s.size ≤ c) (h2 : c ≤ maxLen) :
    OwnS (w.alloc (.cells (bytesRow s c) e ((bytesRow s c).size, (bytesRow s c).size + 1))) w.heap.size e 1 (.slice (some ⟨w.heap.size, 0, none⟩) s.size c) s.size ((bytesOf s).map (Value.int .u8)) := by
  have hs : (bytesRow s c).size = c := by unfold bytesRow; simp; have : s.data.size = s.size := rfl; omega
  refine ⟨by rw [List.length_map, bytesOf_len, Nat.mul_one], .inr ⟨w.heap.size, 0, c, bytesRow s c, rfl, Nat.le_refl _, ⟨_, heap_alloc_new w _, .inr (Nat.le_refl _)⟩, h1, h2, by omega, ?_⟩⟩
  unfold bytesRow bytesOf
  rw [Array.toList_append, List.drop_zero, Nat.mul_one, List.take_append_of_le_length (by simp)]
  rw [List.take_of_length_le (by simp)]
  simp
theorem Src.one_at {P : Program} {w : World} {u : Value} {t : TypeId} {g : Nat} (hg : g = w.heap.size) (h1 : u.oneCell' = true) : Src P (w.alloc (.cells #[u] t)) 1 (.slice (some ⟨g, 0, none⟩) 1 1) 1 [u] := by
  subst hg; exact Src.one_new h1
theorem cell_beside (w : World) (g i j : Nat) (v : Value) (h : i ≠ j) : (w.setCell ⟨g, i, none⟩ v).cell? ⟨g, j, none⟩ = w.cell? ⟨g, j, none⟩ :=
  World.cell?_setCell_other _ _ _ _ (by intro he; injection he with _ h2 _; exact h h2)
end Go.Proofs.YtdlabapfcghfmaaGreatDoor
