/- The walk of NameValid. -/
import Derived.Test.YtbaokenjkbabnaaDoorNmI
namespace Go.Proofs.YtbaokenjkbabnaaDoor
open Go.RowKit
set_option linter.unusedVariables false

set_option maxRecDepth 100000 in
set_option maxHeartbeats 2000000 in
theorem nameValid_walk (s t : ByteArray) (w : World) (hE : Env w) (hs : s.size ≤ 140737488351232) (ht : t.size ≤ 140737488351232) :
    Calls Tryd.prog 4 #[.string s, .string t] w fun e w' => e = .returned (.bool true) ∧ Below w.heap.size w w' := by
  have h1 : Calls Tryd.prog 11 #[.string s] w fun e w' => e = .returned (.bool (validN s.data.toList)) ∧ Below w.heap.size w w' := valid_any s w hE (by omega)
  have h2 : ∀ w', Calls Tryd.prog 12 #[.string s] w' fun e w'' => e = .returned (.bool (validN s.data.toList)) ∧ Below w'.heap.size w' w'' := fun w' => validR_any s w' (by omega)
  have h3 := fun w' => under_any s t w' (by omega)
  have h4 := fun w' => underR_any s t w' (by omega) (by omega)
  have HA : Hid (∀ w', Below w.heap.size w w' → Calls Tryd.prog 9 #[] w' fun e w'' => e = .returned (.bool true) ∧ Below w'.heap.size w' w'') := fun w' hb => awake14_any w' (hE.below hb)
  generalize validN s.data.toList = V at *
  generalize underL s.data.toList t.data.toList = U at *
  have H2 := Lib.hid h2
  have H3 := Lib.hid h3
  have H4 := Lib.hid h4
  clear h2 h3 h4 hE
  cases V <;> cases U
  all_goals
    go_enter Tryd.func4, Tryd.ntmps4
    go_wp2_with fail
    refine h1.mono ?_
    rintro e w1 ⟨rfl, hB⟩
    go_wp2_with fail
    refine (H2.out w1).mono ?_
    rintro e w2 ⟨rfl, hb2⟩
    have hB := hB.trans (hb2.mono hB.size)
    clear hb2
    go_wp2_with fail
    refine (H3.out w2).mono ?_
    rintro e w3 ⟨rfl, rfl⟩
    go_wp2_with fail
    refine (H4.out w2).mono ?_
    rintro e w4 ⟨rfl, hb4⟩
    have hB := hB.trans (hb4.mono hB.size)
    clear hb4
    go_wp2_with fail
    refine (HA.out w4 hB).mono ?_
    rintro e w5 ⟨rfl, hb5⟩
    have hB := hB.trans (hb5.mono hB.size)
    go_wp2
    go_ret
    exact ⟨rfl, hB⟩
end Go.Proofs.YtbaokenjkbabnaaDoor
