/- The small functions of package sum and of the document's answer: four, number, words, turning of words, the kinds of steps. -/
import Derived.Test.YtdlabapfcghfmaaGreatDoorApp
import Derived.StillTailTactics
import Derived.Deep.RegionHeld3
namespace Go.Proofs.YtdlabapfcghfmaaGreatDoor
open Go.RowKit
set_option linter.unusedVariables false

theorem Tryz.info_u8 : (Tryz.prog.info? 5).map (fun i => (i.zero, i.size, i.bytes)) = some (some (.int .u8 0), 1, 1) := by kernel_rfl

/-- A word as four bytes, the highest first. -/
def be4 (n : Int) : List Int := [n / 16777216, n / 65536 % 256, n / 256 % 256, n % 256]

/-- What an appending function leaves. -/
def AppPost (w : World) (base : Nat) (e : TypeId) (v : Value) (n : Nat) (xs news : List Value) (en : Ending) (w' : World) : Prop :=
  ∃ A c, en = .returned (.slice A (n + news.length) c) ∧ OwnS w' base e 1 (.slice A (n + news.length) c) (n + news.length) (xs ++ news) ∧ w.grownBy w' v.ownBlock ∧
    ((Value.slice A (n + news.length) c).ownBlock = v.ownBlock ∨ ∃ g, (Value.slice A (n + news.length) c).ownBlock = some g ∧ w.heap.size ≤ g)

theorem grownBy_trans {w w1 w2 : World} {row : Option Nat} (h : w.grownBy w1 row) (k : w1.grownBy w2 row) : w.grownBy w2 row :=
  ⟨k.os.trans h.os, k.tape.trans h.tape, k.output.trans h.output, Nat.le_trans h.size k.size, fun i hi hne => (k.block i (Nat.lt_of_lt_of_le hi h.size) hne).trans (h.block i hi hne)⟩

set_option maxHeartbeats 400000 in
set_option maxRecDepth 100000 in
theorem four_any (v : Value) (k : Nat) (xs : List Value) (base : Nat) (n : Int) (w : World) (hown : OwnS w base 5 1 v k xs) (h0 : 0 ≤ n) (h1 : n < 4294967296) (hk : k ≤ 140737488355000) (hb : base ≤ w.heap.size) :
    Calls Tryz.prog 55 #[v, .int .u32 n] w (AppPost w base 5 v k xs ((be4 n).map (Value.int .u8))) := by
  obtain ⟨i0, hi, hz0, hz1, hz2⟩ := info_parts Tryz.info_u8
  obtain ⟨A, c, rfl⟩ := hown.shape
  go_enter Tryz.func55, Tryz.ntmps55
  go_wp2_with (at_builtin; refine wpList_append_S rfl (.tmp 5) (.tmp 17) 24 24 rfl i0 (.int .u8 0) 1 (.slice 5) Tryz.underlying24 Tryz.underlying24 (fun _ h => by cases h) hi hz0 hz1 hz2 rfl rfl rfl (hown.alloc _) (Src.new (us := (be4 n).map (Value.int .u8)) rfl (ints_oneCell .u8 (be4 n))) ?_ ?_ ?_ ?_; (simp only [be4, List.length_map, List.length_cons, List.length_nil]; unfold maxLen; omega); (simp only [be4, List.length_map, List.length_cons, List.length_nil]; omega); (simp; omega); intro A' c' w' ho hg hw)
  go_ret
  refine ⟨A', c', rfl, ho, grownBy_trans (World.grownBy_alloc w _ _) hg, ?_⟩
  rcases hw with h | h
  · exact .inl h
  · exact .inr ⟨_, h, by simp⟩

theorem bits_u32 (op : BinOp) (a b : Int) : 0 ≤ bits op .u32 a b ∧ bits op .u32 a b < 4294967296 := by
  unfold bits
  split <;> (try rw [IntKind.wrap_u32']) <;> omega
/-- Four bytes as a word, as the program puts it together. -/
def num4 (b0 b1 b2 b3 : Int) : Int := bits .or .u32 (bits .or .u32 (bits .or .u32 (b0 * 16777216) (b1 * 65536)) (b2 * 256)) b3

/-- A word turned to the left: m is two to the count, d two to what is left of 32. -/
def rotW (m d x : Int) : Int := bits .or .u32 (x * m % 4294967296) (x / d)
def rotN (n x : Int) : Int := if n = 1 then rotW 2 2147483648 x else if n = 5 then rotW 32 134217728 x else rotW 1073741824 4 x

set_option maxRecDepth 100000 in
theorem rot_any (x n : Int) (w : World) (h0 : 0 ≤ x) (h1 : x < 4294967296) (hn : n = 1 ∨ n = 5 ∨ n = 30) :
    Calls Tryz.prog 94 #[.int .u32 x, .int .i64 n] w fun e w' => e = .returned (.int .u32 (rotN n x)) ∧ w = w' := by
  have k1 : bits .and .u64 1 31 = 1 := by decide +kernel
  have k2 : bits .and .u64 5 31 = 5 := by decide +kernel
  have k3 : bits .and .u64 30 31 = 30 := by decide +kernel
  rcases hn with rfl | rfl | rfl
  all_goals
    go_enter Tryz.func94, Tryz.ntmps94
    go_wp2
    go_ret
    exact ⟨rfl, rfl⟩
end Go.Proofs.YtdlabapfcghfmaaGreatDoor
