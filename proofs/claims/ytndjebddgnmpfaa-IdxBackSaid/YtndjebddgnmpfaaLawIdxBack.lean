/- The law IdxBack holds: for every input the call returns true and the arguments read as before. The walk lies in IdxV. -/
import Derived.Test.YtndjebddgnmpfaaFrameOQ
import Derived.Test.YtndjebddgnmpfaaIdxV
namespace Go.Proofs.Ytndjebddgnmpfaa.idxBackLaw
open Go.ChangeShapes Go.WideShapes Go.ChangeAt Go.RowKit
open Go.ChangeMaps (open_string shut_string)
set_option linter.unusedVariables false
set_option maxRecDepth 100000 in
theorem lifted (os : Os) (started : os.Started) (H : Type) (enc : TypeId × Value → H) :
    ReturnsInHanded {} Try.checked os 6 .any (Rows.idxBackSpec.pre6 enc Try.prog Try.f6 Rows.idxBackRow.domain false) (Rows.idxBackSpec.post enc Try.prog Try.f6 false true false false) := by
  refine returnsInHanded_of_change_sized (C := Try.checked) own started (by kernel_rfl) Try.func6
    (ChangeSpec.witness6 (enc := enc) (C := Try.checked) false ⟨#[], #[.slice none 0 0, .string .empty, .string .empty], []⟩ 8 (by kernel_rfl) (by kernel_rfl) (by kernel_rfl) (by kernel_rfl)) ?_
  intro W base args ds gs before hval0 hW hcnd hsz0 _
  have hval : ∀ (j : Nat) t v, Try.f6.params[j]? = some t → args[j]? = some v → Value.okWide Try.prog W .any base t v := hval0
  have hsz : (DataW.weightsEach Try.prog (Try.f6.params.toList ++ Rows.idxBackSpec.plain.varTypes Try.prog) (ds ++ gs)).all (· ≤ reachBytes) = true := hsz0
  have hW' := hW
  obtain ⟨p, q, hA0, hV, rfl, hfz, hnd⟩ := hW
  have hA : DataW.TrodAll enc Try.prog W 0 (fun _ => true) true Try.f6.params.toList args.toList ds p := hA0
  rw [Try.params6] at hA hval hsz
  obtain ⟨v0, vs0, d0, ds0, p0, q0, hargs, rfl, rfl, h0, r0⟩ := trodAll_cons hA
  obtain ⟨v1, vs1, d1, ds1, p1, q1, rfl, rfl, rfl, h1, r1⟩ := trodAll_cons r0
  obtain ⟨v2, vs2, d2, ds2, p2, q2, rfl, rfl, rfl, h2, r2⟩ := trodAll_cons r1
  obtain ⟨rfl, rfl, rfl⟩ := trodAll_nil r2
  obtain rfl : args = #[v0, v1, v2] := by cases args; simp_all
  obtain ⟨rfl, rfl⟩ := trodVars_none hV
  have k0 := h0
  have lt0 : ∀ x ∈ p0, x.block < W.heap.size := by obtain ⟨m, hm⟩ := k0; exact DataW.trod_lt m _ _ _ hm
  obtain ⟨A0, n0, c0, L0, rfl, oo0, ol0, oa0, oz0, oc0, oi0, ow0⟩ := openObjs Try.underlying23 Try.underlying30 (by kernel_rfl) (by kernel_rfl) (by kernel_rfl) Try.underlying3 Try.underlying24 Try.underlying5 (by kernel_rfl) Try.underlying9 Try.underlying3 Try.underlying28 (hval 0 23 v0 rfl rfl) h0 hsz (j := 0) rfl rfl
  obtain ⟨x1, rfl, rfl, rfl, f1⟩ := open_string Try.underlying9 (hval 1 9 v1 rfl rfl) h1
  have z1 := sized_string hsz (j := 1) rfl rfl
  obtain ⟨x2, rfl, rfl, rfl, f2⟩ := open_string Try.underlying9 (hval 2 9 v2 rfl rfl) h2
  have z2 := sized_string hsz (j := 2) rfl rfl
  clear hA0 hval0 hsz0
  refine (idxBack_walk A0 n0 c0 L0 x1 x2 W oo0 ol0 oa0 oz0 oc0 (fun x hx => Nat.le_trans (oi0 x hx) (by decide)) (Nat.le_trans z1 (by decide)) (Nat.le_trans z2 (by decide))).mono fun e W' ⟨he, bel⟩ => ?_
  subst he
  exact ⟨_, rfl, _, _, _, [], _, [], hW', trodAll_mk1 (shut_bool Try.underlying4 _), (trodAll_cons_mk (Below.trod laidOut (by kernel_rfl) (of_decide_eq_true (by kernel_rfl)) k0 bel lt0) (trodAll_cons_mk (shut_string Try.underlying9 f1) (trodAll_cons_mk (shut_string Try.underlying9 f2) trodAll_mk0))), rfl, bel.frame _, fun h => by cases h⟩

theorem proved : Rows.IdxBackSaid :=
  OpenClaim.holds_of_wide 6 Try.f6 rfl rfl rfl rfl rfl rfl rfl ⟨rfl, rfl, rfl, rfl, rfl⟩ rfl rfl rfl rfl rfl (by kernel_rfl) Try.func6 (by kernel_rfl)
    (of_decide_eq_true (by kernel_rfl)) (by unfold Func.isWrapper; first | (rw [if_pos (by decide +kernel)]; kernel_rfl) | (rw [if_neg (by decide +kernel)]; exact ⟨rfl, rfl⟩))
    (fun os started H enc _ => lifted os started H enc)
#print axioms proved
end Go.Proofs.Ytndjebddgnmpfaa.idxBackLaw
