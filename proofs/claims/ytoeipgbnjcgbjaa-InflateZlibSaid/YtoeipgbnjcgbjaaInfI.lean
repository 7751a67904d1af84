/- Inflate: the orders of the lengths, the kinds of blocks: arrays, by the program. -/
import Derived.Test.YtoeipgbnjcgbjaaInfH
import Derived.Test.YtoeipgbnjcgbjaaRow
namespace Go.Proofs.Ytoeipgbnjcgbjaa
open Go.RowKit
set_option linter.unusedVariables false

def orderV : Array Value := #[.int .i64 16, .int .i64 17, .int .i64 18, .int .i64 0, .int .i64 8, .int .i64 7, .int .i64 9, .int .i64 6, .int .i64 10, .int .i64 5, .int .i64 11, .int .i64 4, .int .i64 12, .int .i64 3, .int .i64 13, .int .i64 2, .int .i64 14, .int .i64 1, .int .i64 15]
def kindsV : Array Value := #[.func (.func 89) #[] #[], .func (.func 90) #[] #[], .func (.func 91) #[] #[]]
theorem getSome {cs : Array Value} {i : Nat} (h : i < cs.size) : cs[i]? = some (cs.getD i undef) := by
  rw [Array.getD_eq_getD_getElem?, Array.getElem?_eq_getElem h]; rfl
theorem info_order : (Try.prog.info? 150).map (·.size) = some 19 := by kernel_rfl
theorem info_kinds : (Try.prog.info? 112).map (·.size) = some 3 := by kernel_rfl
set_option maxRecDepth 100000 in
set_option maxHeartbeats 4000000 in
theorem iOrder_any (w : World) : Calls Try.prog 108 #[] w fun e w' => e = .returned (.agg orderV) ∧ Below w.heap.size w w' := by
  go_enter Try.func108, Try.ntmps108
  have hR : Cel (w.alloc (.cells (Array.replicate 19 (.int .i64 0)) 150)) w.heap.size 150 19 (fun _ => .int .i64 0) := by
    have := Cel.new w 150 (Array.replicate 19 (.int .i64 0)) (fun _ => .int .i64 0) (fun i hi => by rw [Array.size_replicate] at hi; rw [Array.getElem?_replicate, if_pos hi])
    rwa [Array.size_replicate] at this
  have hB : Below w.heap.size w (w.alloc (.cells (Array.replicate 19 (.int .i64 0)) 150)) := (Below.refl _ _).alloc (Nat.le_refl _) _
  go_wp2_with (refine wpList_store_part (vs := orderV) (off := 0) rfl (.tmp 0) (.tmp 1) rfl rfl rfl hR info_order (by decide) (by simp [Value.oneCell', orderV]) ?_; intro w9 hC9 hg9 hs9)
  have hs : orderV.size = 19 := rfl
  have hB9 : Below w.heap.size w w9 := hB.grown hg9 hB.size (fun k hk => by injection hk with hk; omega)
  have hC : Cel w9 w.heap.size 150 19 (fun i => orderV.getD i undef) := hC9.congr fun i hi => by rw [if_pos ⟨by omega, by omega⟩, Nat.sub_zero]
  clear hR hB hC9 hg9 hs9
  show bodyPost _ _ (fun e w' => e = .returned (.agg orderV) ∧ Below w.heap.size w w') _ ⟨#[.pointer (some ⟨w.heap.size, 0, none⟩), .agg orderV], []⟩ w9
  generalize orderV = V at *
  exact bodyPost_ret (v := .agg V) (results_cel rfl _ rfl hC (d := .array 19 3) Try.underlying150 rfl (by rw [hs]; exact info_order) (by omega) (fun j hj => getSome hj)) rfl ⟨rfl, hB9⟩
set_option maxRecDepth 100000 in
set_option maxHeartbeats 4000000 in
theorem iKinds_any (w : World) : Calls Try.prog 71 #[] w fun e w' => e = .returned (.agg kindsV) ∧ Below w.heap.size w w' := by
  go_enter Try.func71, Try.ntmps71
  go_wp2_with fail
  have hs : kindsV.size = 3 := rfl
  show bodyPost _ _ (fun e w' => e = .returned (.agg kindsV) ∧ Below w.heap.size w w') _ ⟨#[.pointer (some ⟨w.heap.size, 0, none⟩), .agg kindsV], []⟩ (w.alloc (.cells kindsV 112))
  generalize kindsV = V at *
  have hC : Cel (w.alloc (.cells V 112)) w.heap.size 112 V.size (fun i => V.getD i undef) := Cel.new w _ V _ (fun i hi => getSome hi)
  have hB : Below w.heap.size w (w.alloc (.cells V 112)) := (Below.refl _ _).alloc (Nat.le_refl _) _
  exact bodyPost_ret (v := .agg V) (results_cel rfl _ rfl hC (d := .array 3 111) Try.underlying112 rfl (by rw [hs]; exact info_kinds) (Nat.le_refl _) (fun j hj => getSome hj)) rfl ⟨rfl, hB⟩
theorem run_kind0 (w : World) : (Instr.index 112 (.agg #[.func (.func 89) #[] #[], .func (.func 90) #[] #[], .func (.func 91) #[] #[]]) (.int .i64 0)).run Try.prog w = .ok (.func (.func 89) #[] #[]) w := by
  kernel_rfl
theorem run_kind1 (w : World) : (Instr.index 112 (.agg #[.func (.func 89) #[] #[], .func (.func 90) #[] #[], .func (.func 91) #[] #[]]) (.int .i64 1)).run Try.prog w = .ok (.func (.func 90) #[] #[]) w := by
  kernel_rfl
theorem run_kind2 (w : World) : (Instr.index 112 (.agg #[.func (.func 89) #[] #[], .func (.func 90) #[] #[], .func (.func 91) #[] #[]]) (.int .i64 2)).run Try.prog w = .ok (.func (.func 91) #[] #[]) w := by
  kernel_rfl
end Go.Proofs.Ytoeipgbnjcgbjaa
