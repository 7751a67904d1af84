/- The walk of the law InflateZlib. -/
import Derived.Test.YtoeipgbnjcgbjaaWkY
import Derived.Test.YtoeipgbnjcgbjaaInfX
namespace Go.Proofs.Ytoeipgbnjcgbjaa
open Go.RowKit
set_option linter.unusedVariables false

set_option maxRecDepth 100000 in
set_option maxHeartbeats 8000000 in
theorem inflateZlib_walk (A : Option Addr) (c : Nat) (bs : List Int) (m : Int) (w : World) (hI : Ints .u8 w A bs) (wf : ∀ x ∈ bs, (Lit.int .u8 x).wf = true) (hc : bs.length ≤ c ∧ c ≤ 9223372036854775807) (hm : (Lit.int .i64 m).wf = true) :
    Calls Try.prog 13 #[.slice A bs.length c, .int .i64 m] w fun e w' => e = .returned (.bool true) ∧ Below w.heap.size w w' := by
  have hb : Bytes bs := fun x hx => by
    have := wf x hx
    simp [Lit.wf, IntKind.min, IntKind.max, IntKind.bits, IntKind.signed] at this
    omega
  have HAW0 := Lib.hid (awake6_any w)
  clear wf hm
  by_cases hm5 : 100000 < m
  · have d1 : decide ((100000 : Int) < m) = true := decide_eq_true hm5
    clear hI hb
    go_enter Try.func13, Try.ntmps13
    go_wp2_with fail
    refine HAW0.out.mono ?_
    rintro e w1 ⟨rfl, hB1⟩
    have HB1 := Lib.hid hB1
    clear hB1 HAW0
    go_wp2
    go_ret
    exact ⟨rfl, HB1.out⟩
  by_cases h5 : 5000 < bs.length
  · have d0 : decide ((100000 : Int) < m) = false := decide_eq_false hm5
    have d1 : decide ((5000 : Int) < (bs.length : Int)) = true := decide_eq_true (by omega)
    clear hI hb
    go_enter Try.func13, Try.ntmps13
    go_wp2_with fail
    refine HAW0.out.mono ?_
    rintro e w1 ⟨rfl, hB1⟩
    have HB1 := Lib.hid hB1
    clear hB1 HAW0
    go_wp2
    go_ret
    exact ⟨rfl, HB1.out⟩
  have d0 : decide ((100000 : Int) < m) = false := decide_eq_false hm5
  have d1 : decide ((5000 : Int) < (bs.length : Int)) = false := decide_eq_false (by omega)
  obtain ⟨most, hmost⟩ : ∃ most : Nat, max m 0 = (most : Int) := ⟨(max m 0).toNat, by omega⟩
  obtain ⟨F, hF⟩ : ∃ F, F = 200000 := ⟨_, rfl⟩
  have HR := Lib.hid (iZlib_any A c F bs m most w hI hb (by omega) hc.1  hmost (by omega) (by omega) (by omega))
  have HD := Lib.hid (fun (wx : World) (hx : Ints .u8 wx A bs) => wZlib_any A c F bs m most wx hx hb (by omega) hc.1  hmost (by omega) (by omega) (by omega))
  have HI := Lib.hid hI
  clear hI hb hF hmost HAW0
  obtain ⟨X, hX⟩ : ∃ X, zlibM F bs most = X := ⟨_, rfl⟩
  rw [hX] at HR HD
  clear hX
  obtain ⟨ex, n, out⟩ := X
  go_enter Try.func13, Try.ntmps13
  go_wp2_with fail
  refine HR.out.mono ?_
  rintro e w1 ⟨hB1, hbad, hgood⟩
  have HB1 := Lib.hid hB1
  have HD1 := Lib.hid (HD.out w1 (HI.out.below hB1))
  simp only at hbad hgood
  clear hB1 HR HD HI
  by_cases hx0 : ex = 0
  · subst hx0
    obtain ⟨⟨v1, rfl, ho1⟩, _, _, _⟩ := hgood rfl
    obtain ⟨A1, c1, rfl⟩ := ho1.shape
    have HO1 := Lib.hid (OwnS.ints ho1)
    clear hbad hgood ho1
    go_wp2_with fail
    refine HD1.out.mono ?_
    rintro e w2 ⟨hB2, _, hgood⟩
    obtain ⟨⟨v2, rfl, ho2⟩, _, _, _⟩ := hgood rfl
    obtain ⟨A2, c2, rfl⟩ := ho2.shape
    simp only at ho2
    have hB3 := hB2.alloc hB2.size (.cells #[.slice A2 out.length c2, .int .i64 n, .int .i64 0] 79)
    have HB3 := Lib.hid (HB1.out.trans (hB3.mono HB1.out.size))
    have HO3 := Lib.hid (HO1.out.below hB3)
    have HO2 := Lib.hid (OwnS.ints (ho2.alloc (.cells #[.slice A2 out.length c2, .int .i64 n, .int .i64 0] 79)))
    have hr2 : (convert 22 9 (.slice A2 out.length c2)).run Try.prog (w2.alloc (.cells #[.slice A2 out.length c2, .int .i64 n, .int .i64 0] 79)) = .ok (.string (strOfNums out)) (w2.alloc (.cells #[.slice A2 out.length c2, .int .i64 n, .int .i64 0] 79)) := run_str_ints 22 9 5 Try.underlying22 Try.underlying5 Try.underlying9 A2 c2 out HO2.out
    have hr1 : (convert 22 9 (.slice A1 out.length c1)).run Try.prog (w2.alloc (.cells #[.slice A2 out.length c2, .int .i64 n, .int .i64 0] 79)) = .ok (.string (strOfNums out)) (w2.alloc (.cells #[.slice A2 out.length c2, .int .i64 n, .int .i64 0] 79)) := run_str_ints 22 9 5 Try.underlying22 Try.underlying5 Try.underlying9 A1 c1 out HO3.out
    have HAW := Lib.hid (awake6_any (w2.alloc (.cells #[.slice A2 out.length c2, .int .i64 n, .int .i64 0] 79)))
    clear hB2 hB3 hgood ho2 HD1 HB1 HO1 HO2 HO3
    generalize strOfNums out = SS at *
    go_wp2_with fail
    refine HAW.out.mono ?_
    rintro e w4 ⟨rfl, hB4⟩
    have HB4 := Lib.hid (HB3.out.trans (hB4.mono HB3.out.size))
    clear hB4 HB3 HAW
    go_wp2
    go_ret
    exact ⟨rfl, HB4.out⟩
  · obtain rfl := hbad hx0
    clear hbad hgood
    go_wp2_with fail
    refine HD1.out.mono ?_
    rintro e w2 ⟨hB2, hbad, _⟩
    obtain rfl := hbad hx0
    have hB3 := hB2.alloc hB2.size (.cells #[.slice none 0 0, .int .i64 0, .int .i64 ex] 79)
    have HB3 := Lib.hid (HB1.out.trans (hB3.mono HB1.out.size))
    have hr0 : (convert 22 9 (.slice none 0 0)).run Try.prog (w2.alloc (.cells #[.slice none 0 0, .int .i64 0, .int .i64 ex] 79)) = .ok (.string (strOfNums [])) (w2.alloc (.cells #[.slice none 0 0, .int .i64 0, .int .i64 ex] 79)) := run_str_ints 22 9 5 Try.underlying22 Try.underlying5 Try.underlying9 none 0 [] (fun h => absurd h (by decide))
    have HAW := Lib.hid (awake6_any (w2.alloc (.cells #[.slice none 0 0, .int .i64 0, .int .i64 ex] 79)))
    clear hB2 hB3 hbad HD1 HB1
    generalize strOfNums [] = SS at *
    go_wp2_with fail
    refine HAW.out.mono ?_
    rintro e w4 ⟨rfl, hB4⟩
    have HB4 := Lib.hid (HB3.out.trans (hB4.mono HB3.out.size))
    clear hB4 HB3 HAW
    go_wp2
    go_ret
    exact ⟨rfl, HB4.out⟩
end Go.Proofs.Ytoeipgbnjcgbjaa
