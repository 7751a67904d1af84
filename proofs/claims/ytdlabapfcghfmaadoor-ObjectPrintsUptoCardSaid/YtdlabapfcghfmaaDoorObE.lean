/- strings.IndexAny at a long text; ContainsAny; object.text. -/
import Derived.Test.YtdlabapfcghfmaaDoorObD
import Derived.Test.YtdlabapfcghfmaaDoorObS
import Derived.Shelf.Strings.AsciiSet
namespace Go.Proofs.YtdlabapfcghfmaaDoor
open Go.RowKit
set_option linter.unusedVariables false
set_option linter.unusedSimpArgs false

def setO : Array Value := Lib.setCells badL
theorem setO_size : setO.size = 256 := Lib.setCells_size _
theorem setO_at (x : UInt8) : setO[x.toNat]? = some (.bool (badL.contains x)) := Lib.setCells_at _ x
theorem set_info : (Tryd.prog.info? 92).map (fun i => (i.zero, i.size)) = some (some (.agg (Array.replicate 256 (.bool false))), 256) := by kernel_rfl
theorem makeSet (w : World) : Calls Tryd.prog 56 #[.string ⟨#[60, 62, 10, 0]⟩] w fun e w' => e = .returned (.tuple #[.agg setO, .bool true]) ∧ w' = w.alloc (.cells setO 92) :=
  Tryd.strings_makeASCIISet (zero_of_info set_info).1 ⟨#[60, 62, 10, 0]⟩ w (by decide) (fun j b hb => by
    have : j = 0 ∨ j = 1 ∨ j = 2 ∨ j = 3 := by
      have := (List.getElem?_eq_some_iff.1 hb).1
      simp at this; omega
    rcases this with rfl | rfl | rfl | rfl <;> (simp at hb; subst hb; decide))
set_option maxRecDepth 1000000 in
set_option maxHeartbeats 4000000 in
theorem indexAny_long (s : ByteArray) (w : World) (h8 : 8 < s.size) (hs : s.size ≤ 140737488355328) :
    Calls Tryd.prog 69 #[.string s, .string ⟨#[60, 62, 10, 0]⟩] w (AnyPost s w) := by
  have h8z : decide ((8 : Int) < (s.size : Int)) = true := decide_eq_true (by omega)
  have HM := Lib.hid (fun w => makeSet w)
  have hsc : Lib.Kept ((storeCells ⟨w.heap.size + 1, 0, none⟩ setO.toList 0).run Tryd.prog ((w.alloc (.cells setO 92)).alloc (.cells Tryd.zeroCells92 92)) = .ok () ((w.alloc (.cells setO 92)).alloc (.cells setO 92))) := by
    have h := run_storeCells_new (P := Tryd.prog) (w.alloc (.cells setO 92)) 92 Tryd.zeroCells92 setO (by rw [setO_size]; exact (zero_of_info set_info).2) (by rw [setO_size]; kernel_rfl) (Lib.setCells_one _)
    rw [show (w.alloc (.cells setO 92)).heap.size = w.heap.size + 1 by simp] at h
    exact h
  have HSZ := Lib.hid setO_size
  have HAT := Lib.hid setO_at
  go_enter Tryd.func69, Tryd.ntmps69
  go_wp2_with (first
    | (go_at_call 82; refine (Tryd.strings_shouldUseASCIISet (s.size : Int) _).mono ?_; rintro e w' ⟨rfl, hw⟩; rw [hw, h8z])
    | (go_at_call 56; refine (HM.out _).mono ?_; rintro e w1 ⟨rfl, hw1⟩))
  have hsc' : (storeCells ⟨w.heap.size + 1, 0, none⟩ setO.toList 0).run Tryd.prog ((w.alloc (.cells setO 92)).alloc (.cells Tryd.zeroCells92 92)) = .ok () ((w.alloc (.cells setO 92)).alloc (.cells setO 92)) := hsc
  rw [hsc']
  simp only [Result.andThen]
  rw [Oper.upon_skip]
  clear hsc hsc'
  have hcl : ∀ x : UInt8, ((w.alloc (.cells setO 92)).alloc (.cells setO 92)).cell? ⟨w.heap.size + 1, x.toNat, none⟩ = some (.bool (badL.contains x)) := fun x => by
    rw [World.cell?_alloc_at _ _ _ _ (by simp)]; exact setO_at x
  have hbl : Below w.heap.size w ((w.alloc (.cells setO 92)).alloc (.cells setO 92)) := ((Below.refl _ _).alloc (Nat.le_refl _) _).alloc (by simp) _
  have HC := Lib.hid hcl
  have HB := Lib.hid hbl
  generalize (w.alloc (.cells setO 92)).alloc (.cells setO 92) = w0 at *
  generalize hgg : w.heap.size + 1 = gg at *
  clear hcl hbl HAT hgg
  go_wp2
  go_loopw [8] (fun v wr => ∃ i : Nat, i ≤ s.size ∧ v = .int .i64 (i : Int) ∧ wr = w0 ∧ Lib.NoAny s.data.toList badL i) (fun v _ => s.size - (intOf v).toNat)
  case atStart => exact ⟨0, by omega, rfl, rfl, Lib.NoAny.zero _ _⟩
  case round =>
    obtain ⟨i, hi, rfl, rfl, hno⟩ := hrel
    have HN := Lib.hid hno
    clear hno
    by_cases hlt : i < s.size
    · have d0 : decide ((i : Int) < (s.size : Int)) = true := decide_eq_true (by omega)
      have hxl : s.data.toList[i]? = some (s[i]'hlt) := Lib.data_getElem? s i hlt
      have hcx := Tryd.asciiSet_contains gg (s[i]'hlt) _ wr (HC.out (s[i]'hlt))
      cases hin : badL.contains (s[i]'hlt)
      · rw [hin] at hcx
        have HS := Lib.hid (HN.out.succ hxl hin)
        clear hxl hin
        go_wp2_with (go_at_call 70; refine hcx.mono ?_; rintro e w' ⟨rfl, rfl⟩)
        go_roundw
        case rel => exact ⟨i + 1, by omega, by go_num, by first | rfl | trivial, HS.out⟩
        case measure => simp [intOf]; omega
      · rw [hin] at hcx
        have HS := Lib.hid (Lib.indexAny_hit HN.out hxl hin)
        clear hxl hin
        go_wp2_with (go_at_call 70; refine hcx.mono ?_; rintro e w' ⟨rfl, rfl⟩)
        go_ret
        unfold AnyPost
        rw [HS.out]
        exact ⟨rfl, HB.out⟩
    · obtain rfl : i = s.size := by omega
      have d0 : decide ((s.size : Int) < (s.size : Int)) = false := decide_eq_false (by omega)
      have HS := Lib.hid (Lib.indexAny_none (by rw [← Lib.size_eq]; exact HN.out))
      go_wp2
      go_ret
      unfold AnyPost
      rw [HS.out]
      exact ⟨rfl, HB.out⟩
end Go.Proofs.YtdlabapfcghfmaaDoor
