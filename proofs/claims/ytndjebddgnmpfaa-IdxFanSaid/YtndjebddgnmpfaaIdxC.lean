/- The entries of an index in memory; idx.parse. -/
import Derived.Test.YtndjebddgnmpfaaIdxB
import Derived.Shelf.SlSorted.Search
namespace Go.Proofs.Ytndjebddgnmpfaa
open Go.RowKit
set_option linter.unusedVariables false
set_option linter.unusedSimpArgs false

def entF (x : Ent) (c : Nat) : Value := if c = 0 then .int .i64 0 else if c = 1 then .slice none 0 0 else if c = 2 then .string (strOfNums x.id) else if c = 3 then .int .i64 x.at_ else .int .u32 x.crc
def zEnt : Ent := ⟨[], 0, 0⟩
def entA (x : Ent) : Array Value := #[.int .i64 0, .slice none 0 0, .string (strOfNums x.id), .int .i64 x.at_, .int .u32 x.crc]
theorem entA_at (x : Ent) (c : Nat) (h : c < 5) : (entA x)[c]? = some (entF x c) := by
  rcases c with _ | _ | _ | _ | _ | c <;> first | rfl | omega
theorem entA_one (x : Ent) : ∀ v ∈ (entA x).toList, v.oneCell' = true := by simp [entA, Value.oneCell']
def outF (E : Nat → Ent) (k j : Nat) : Value := entF (if j / 5 < k then E (j / 5) else zEnt) (j % 5)
theorem info_obj : (Try.prog.info? 30).map (fun i => (i.zero, i.size, i.bytes)) = some (some (.agg #[.int .i64 0, .slice none 0 0, .string ⟨#[]⟩, .int .i64 0, .int .u32 0]), 5, 64) := by kernel_rfl
theorem size_obj (x : Ent) : (Try.prog.info? 30).map (·.size) = some (entA x).size := by kernel_rfl
/-- A row of objects that reads as these entries. -/
def ObsAt (w : World) (A : Option Addr) (L : List Ent) : Prop :=
  0 < L.length → ∃ g o, A = some ⟨g, o, none⟩ ∧ g < w.heap.size ∧ ∀ i x, L[i]? = some x → ∀ c, c < 5 → w.cell? ⟨g, o + i * 5 + c, none⟩ = some (entF x c)
theorem ObsAt.below {w w' : World} {A : Option Addr} {L : List Ent} (h : ObsAt w A L) (hb : Below w.heap.size w w') : ObsAt w' A L := fun hl => by
  obtain ⟨g, o, h1, h2, h3⟩ := h hl
  exact ⟨g, o, h1, Nat.lt_of_lt_of_le h2 hb.size, fun i x hx c hc => (hb.cell (p := ⟨g, o + i * 5 + c, none⟩) h2).trans (h3 i x hx c hc)⟩
theorem make_objs (w : World) (E : Nat → Ent) (n : Nat) (hn : n ≤ 4096) :
    ∃ w', (Instr.makeSlice 23 (.int .i64 (n : Int)) (.int .i64 (n : Int))).run Try.prog w = .ok (.slice (some ⟨w.heap.size, 0, none⟩) n n) w' ∧
      Cel w' w.heap.size 30 (n * 5) (outF E 0) ∧ w.grownBy w' none := by
  obtain ⟨i0, hi, hz0, hz1, hz2⟩ := info_parts info_obj
  obtain ⟨w', h1, h2, h3⟩ := run_make_full (P := Try.prog) w w.heap.size 23 30 i0 _ 5 Try.underlying23 hi hz0 hz1 .i64 .i64 n (by rw [hz2]; omega) (by unfold maxLen; omega) (Nat.le_refl _)
  refine ⟨w', h1, ?_, h3⟩
  rcases h2.2 with ⟨hv, _⟩ | ⟨g, cap, cur, hv, _, hh, hnc, _, hcs, ht⟩
  · cases hv
  · injection hv with hA _ hc
    injection hA with hA
    injection hA with hA _ _
    subst hA; subst hc
    refine ⟨cur, hh, hcs, fun i hi => ?_⟩
    have e : cur.toList = (madeCells (Value.agg #[.int .i64 0, .slice none 0 0, .string ⟨#[]⟩, .int .i64 0, .int .u32 0]).cells (n * 5)).toList := by
      rw [← ht, List.take_of_length_le (by simp [hcs])]
    rw [← Array.getElem?_toList, e, Array.getElem?_toList]
    have hm : i % 5 < 5 := Nat.mod_lt _ (by decide)
    have hc5 : (Value.agg #[.int .i64 0, .slice none 0 0, .string ⟨#[]⟩, .int .i64 0, .int .u32 0]).cells = entA zEnt := rfl
    rw [hc5]
    unfold madeCells outF
    rw [if_neg (by omega)]
    have hs : (entA zEnt).size = 5 := rfl
    rw [hs]
    have hat := entA_at zEnt (i % 5) hm
    simp only [Array.getElem?_map, Array.getElem?_range, hi, if_true, Option.map_some]
    rw [getElem!_pos (entA zEnt) (i % 5) (by rw [hs]; exact hm)]
    rw [Array.getElem?_eq_getElem (by rw [hs]; exact hm)] at hat
    exact hat
theorem outF_put (E : Nat → Ent) (k j : Nat) : (if k * 5 ≤ j ∧ j < k * 5 + (entA (E k)).size then (entA (E k)).getD (j - k * 5) undef else outF E k j) = outF E (k + 1) j := by
  have hs : (entA (E k)).size = 5 := rfl
  rw [hs]
  unfold outF
  by_cases h : k * 5 ≤ j ∧ j < k * 5 + 5
  · obtain ⟨c, rfl⟩ : ∃ c, j = k * 5 + c := ⟨j - k * 5, by omega⟩
    rw [if_pos h, Nat.add_sub_cancel_left, show (k * 5 + c) / 5 = k by omega, show (k * 5 + c) % 5 = c by omega, if_pos (by omega), Array.getD_eq_getD_getElem?, entA_at _ c (by omega)]
    rfl
  · rw [if_neg h]
    by_cases h2 : j / 5 < k
    · rw [if_pos h2, if_pos (by omega)]
    · rw [if_neg h2, if_neg (by omega)]
theorem outF_cell (E : Nat → Ent) (k i c : Nat) (hi : i < k) (hc : c < 5) : outF E k (i * 5 + c) = entF (E i) c := by
  unfold outF
  rw [show (i * 5 + c) / 5 = i by omega, show (i * 5 + c) % 5 = c by omega, if_pos hi]
theorem objs_at {w : World} {g n : Nat} {E : Nat → Ent} (h : Cel w g 30 (n * 5) (outF E n)) : ObsAt w (some ⟨g, 0, none⟩) ((List.range n).map E) := fun hl => by
  refine ⟨g, 0, rfl, h.blk, fun i x hx c hc => ?_⟩
  have hi : i < n := by have := (List.getElem?_eq_some_iff.1 hx).1; simpa using this
  have hx2 : E i = x := by
    rw [List.getElem?_map, List.getElem?_range hi] at hx
    simpa using hx
  rw [Nat.zero_add, h.cell (i * 5 + c) (by omega), outF_cell E n i c hi hc, hx2]
/-- What holds while an object is put together beside calls that make memory: nothing is made yet; a new block of noughts; the object. -/
def IObj (wr : World) (x : Ent) : List Value → World → Prop
  | [], w => Below wr.heap.size wr w
  | [v], w => Below wr.heap.size wr w ∧ ∃ g, v = .pointer (some ⟨g, 0, none⟩) ∧ wr.heap.size ≤ g ∧ Cel w g 30 5 (entF zEnt)
  | v :: _, w => Below wr.heap.size wr w ∧ ∃ g, v = .pointer (some ⟨g, 0, none⟩) ∧ wr.heap.size ≤ g ∧ Cel w g 30 5 (entF x)
theorem IObj.low {wr w : World} {x : Ent} : ∀ {vs : List Value}, IObj wr x vs w → Below wr.heap.size wr w
  | [], h => h
  | [_], h => h.1
  | _ :: _ :: _, h => h.1
theorem IObj.mono {wr w w' : World} {x : Ent} (hb : Below w.heap.size w w') : ∀ {vs : List Value}, IObj wr x vs w → IObj wr x vs w'
  | [], h => Below.trans h (hb.mono (Below.size h))
  | [_], h => by
    obtain ⟨h1, g, h2, h3, h4⟩ := h
    exact ⟨h1.trans (hb.mono h1.size), g, h2, h3, h4.below hb h4.blk⟩
  | _ :: _ :: _, h => by
    obtain ⟨h1, g, h2, h3, h4⟩ := h
    exact ⟨h1.trans (hb.mono h1.size), g, h2, h3, h4.below hb h4.blk⟩
theorem IObj.new {wr w : World} {x : Ent} (h : IObj wr x [] w) : IObj wr x [.pointer (some ⟨w.heap.size, 0, none⟩)] (w.alloc (.cells #[.int .i64 0, .slice none 0 0, .string ⟨#[]⟩, .int .i64 0, .int .u32 0] 30)) :=
  ⟨Below.alloc h (Below.size h) _, w.heap.size, rfl, Below.size h, Cel.new w _ (entA zEnt) _ fun i hi => entA_at zEnt i hi⟩
def putEnt (w : World) (g : Nat) (x : Ent) : World := ((((w.setCell ⟨g, 0, none⟩ (.int .i64 0)).setCell ⟨g, 1, none⟩ (.slice none 0 0)).setCell ⟨g, 2, none⟩ (.string (strOfNums x.id))).setCell ⟨g, 3, none⟩ (.int .i64 x.at_)).setCell ⟨g, 4, none⟩ (.int .u32 x.crc)
theorem IObj.put {wr w : World} {x : Ent} {v v' : Value} {g : Nat} (h1 : Below wr.heap.size wr w) (h2 : v = .pointer (some ⟨g, 0, none⟩)) (h3 : wr.heap.size ≤ g) (h4 : Cel w g 30 5 (entF zEnt)) : IObj wr x [v, v'] (putEnt w g x) := by
  refine ⟨?_, g, h2, h3, ?_⟩
  · exact ((((h1.setCell h3 _).setCell h3 _).setCell h3 _).setCell h3 _).setCell h3 _
  · refine (((((h4.set 0 _).set 1 _).set 2 _).set 3 _).set 4 _).congr fun i hi => ?_
    rcases i with _ | _ | _ | _ | _ | i <;> first | rfl | omega
end Go.Proofs.Ytndjebddgnmpfaa
