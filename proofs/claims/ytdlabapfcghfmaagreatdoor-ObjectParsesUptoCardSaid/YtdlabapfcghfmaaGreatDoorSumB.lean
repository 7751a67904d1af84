/- SHA-1's kinds of steps, and the taking of one block. -/
import Derived.Test.YtdlabapfcghfmaaGreatDoorSumA
import Derived.Laws.EntriesVeiled
namespace Go.Proofs.YtdlabapfcghfmaaGreatDoor
open Go.RowKit
set_option linter.unusedVariables false

def fPar (b c d : Int) : Int := bits .xor .u32 (bits .xor .u32 b c) d
def fCh (b c d : Int) : Int := bits .or .u32 (bits .and .u32 b c) (bits .and .u32 (bits .xor .u32 IntKind.u32.max b) d)
def fMaj (b c d : Int) : Int := bits .or .u32 (bits .or .u32 (bits .and .u32 b c) (bits .and .u32 b d)) (bits .and .u32 c d)
theorem u32_unsigned : IntKind.u32.signed = false := rfl

set_option maxRecDepth 100000 in
theorem par_any (b c d : Int) (w : World) : Calls Tryz.prog 116 #[.int .u32 b, .int .u32 c, .int .u32 d] w fun e w' => e = .returned (.int .u32 (fPar b c d)) ∧ w = w' := by
  go_enter Tryz.func116, Tryz.ntmps116
  go_wp2
  go_ret
  exact ⟨rfl, rfl⟩
set_option maxRecDepth 100000 in
theorem ch_any (b c d : Int) (w : World) : Calls Tryz.prog 117 #[.int .u32 b, .int .u32 c, .int .u32 d] w fun e w' => e = .returned (.int .u32 (fCh b c d)) ∧ w = w' := by
  have hs := u32_unsigned
  go_enter Tryz.func117, Tryz.ntmps117
  go_wp2
  go_ret
  exact ⟨rfl, rfl⟩
set_option maxRecDepth 100000 in
theorem maj_any (b c d : Int) (w : World) : Calls Tryz.prog 118 #[.int .u32 b, .int .u32 c, .int .u32 d] w fun e w' => e = .returned (.int .u32 (fMaj b c d)) ∧ w = w' := by
  go_enter Tryz.func118, Tryz.ntmps118
  go_wp2
  go_ret
  exact ⟨rfl, rfl⟩

def theSteps : Array Value := #[.func (.func 117) #[] #[], .func (.func 116) #[] #[], .func (.func 118) #[] #[], .func (.func 116) #[] #[]]
def theConsts : Array Value := #[.int .u32 1518500249, .int .u32 1859775393, .int .u32 2400959708, .int .u32 3395469782]
set_option maxRecDepth 100000 in
theorem steps_any (w : World) : Calls Tryz.prog 95 #[] w fun e w' => e = .returned (.tuple #[.agg theSteps, .agg theConsts]) ∧ Below w.heap.size w w' := by
  go_enter Tryz.func95, Tryz.ntmps95
  go_wp2
  refine bodyPost_ret (v := .tuple #[.agg theSteps, .agg theConsts]) (by simp [results, Tryz.results95, go_sem, theSteps, theConsts]) rfl ⟨rfl, ?_⟩
  exact ((Below.refl _ _).alloc (Nat.le_refl _) _).alloc (by simp) _

def fT (t : Nat) (b c d : Int) : Int := if t < 20 then fCh b c d else if t < 40 then fPar b c d else if t < 60 then fMaj b c d else fPar b c d
def kT (t : Nat) : Int := if t < 20 then 1518500249 else if t < 40 then 1859775393 else if t < 60 then 2400959708 else 3395469782
def stepFn (t : Nat) : Nat := if t < 20 then 117 else if t < 40 then 116 else if t < 60 then 118 else 116
theorem fT_any (t : Nat) (b c d : Int) (w : World) : Calls Tryz.prog (stepFn t) #[.int .u32 b, .int .u32 c, .int .u32 d] w fun e w' => e = .returned (.int .u32 (fT t b c d)) ∧ w = w' := by
  unfold stepFn fT
  by_cases h1 : t < 20
  · simp only [h1, if_true]; exact ch_any b c d w
  · by_cases h2 : t < 40
    · simp only [h1, h2, if_true, if_false]; exact par_any b c d w
    · by_cases h3 : t < 60
      · simp only [h1, h2, h3, if_true, if_false]; exact maj_any b c d w
      · simp only [h1, h2, h3, if_false]; exact par_any b c d w
theorem call_ch (args : Array Value) (w : World) : (callFunc 117 args).run Tryz.prog w = .ok (.enter 117 args) w := by kernel_rfl
theorem call_par (args : Array Value) (w : World) : (callFunc 116 args).run Tryz.prog w = .ok (.enter 116 args) w := by kernel_rfl
theorem call_maj (args : Array Value) (w : World) : (callFunc 118 args).run Tryz.prog w = .ok (.enter 118 args) w := by kernel_rfl
theorem call_step (t : Nat) (args : Array Value) (w : World) : (callFunc (stepFn t) args).run Tryz.prog w = .ok (.enter (stepFn t) args) w := by
  unfold stepFn
  by_cases h1 : t < 20
  · simp only [h1, if_true]; exact call_ch args w
  · by_cases h2 : t < 40
    · simp only [h1, h2, if_true, if_false]; exact call_par args w
    · by_cases h3 : t < 60
      · simp only [h1, h2, h3, if_true, if_false]; exact call_maj args w
      · simp only [h1, h2, h3, if_false]; exact call_par args w
theorem theSteps_at (t : Nat) (h : t < 80) : theSteps[t / 20]? = some (.func (.func (stepFn t)) #[] #[]) := by
  unfold stepFn
  by_cases h1 : t < 20
  · rw [show t / 20 = 0 by omega]; simp [h1, theSteps]
  · by_cases h2 : t < 40
    · rw [show t / 20 = 1 by omega]; simp [h1, h2, theSteps]
    · by_cases h3 : t < 60
      · rw [show t / 20 = 2 by omega]; simp [h1, h2, h3, theSteps]
      · rw [show t / 20 = 3 by omega]; simp [h1, h2, h3, theSteps]
theorem theConsts_at (t : Nat) (h : t < 80) : theConsts[t / 20]? = some (.int .u32 (kT t)) := by
  unfold kT
  by_cases h1 : t < 20
  · rw [show t / 20 = 0 by omega]; simp [h1, theConsts]
  · by_cases h2 : t < 40
    · rw [show t / 20 = 1 by omega]; simp [h1, h2, theConsts]
    · by_cases h3 : t < 60
      · rw [show t / 20 = 2 by omega]; simp [h1, h2, h3, theConsts]
      · rw [show t / 20 = 3 by omega]; simp [h1, h2, h3, theConsts]

structure H5 where
  a : Int
  b : Int
  c : Int
  d : Int
  e : Int
def H5.vals (h : H5) : Array Value := #[.int .u32 h.a, .int .u32 h.b, .int .u32 h.c, .int .u32 h.d, .int .u32 h.e]
def Word32 (x : Int) : Prop := 0 ≤ x ∧ x < 4294967296
def H5.ok (h : H5) : Prop := Word32 h.a ∧ Word32 h.b ∧ Word32 h.c ∧ Word32 h.d ∧ Word32 h.e

def wordAt (xs : List Int) (t : Nat) : Int := num4 (xs.getD (4 * t) 0) (xs.getD (4 * t + 1) 0) (xs.getD (4 * t + 2) 0) (xs.getD (4 * t + 3) 0)
def nextW (l : List Int) (t : Nat) : Int := rotN 1 (bits .xor .u32 (bits .xor .u32 (bits .xor .u32 (l.getD (t - 3) 0) (l.getD (t - 8) 0)) (l.getD (t - 14) 0)) (l.getD (t - 16) 0))
def schedTo (xs : List Int) : Nat → List Int
  | 0 => []
  | t + 1 => schedTo xs t ++ [if t < 16 then wordAt xs t else nextW (schedTo xs t) t]
def stepH (xs : List Int) (t : Nat) (s : H5) : H5 :=
  ⟨(rotN 5 s.a + fT t s.b s.c s.d + s.e + kT t + (schedTo xs 80).getD t 0) % 4294967296, s.a, rotN 30 s.b, s.c, s.d⟩
def runH (xs : List Int) (h : H5) : Nat → H5
  | 0 => h
  | t + 1 => stepH xs t (runH xs h t)
def mixH (h : H5) (xs : List Int) : H5 :=
  let s := runH xs h 80
  ⟨(h.a + s.a) % 4294967296, (h.b + s.b) % 4294967296, (h.c + s.c) % 4294967296, (h.d + s.d) % 4294967296, (h.e + s.e) % 4294967296⟩

theorem schedTo_len (xs : List Int) (t : Nat) : (schedTo xs t).length = t := by
  induction t with
  | zero => rfl
  | succ t ih => rw [schedTo]; simp [ih]
theorem rotN_ok (n x : Int) : Word32 (rotN n x) := by
  unfold rotN rotW
  repeat' split
  all_goals exact bits_u32 _ _ _
theorem num4_ok (a b c d : Int) : Word32 (num4 a b c d) := bits_u32 _ _ _
theorem schedTo_ok (xs : List Int) (t j : Nat) : Word32 ((schedTo xs t).getD j 0) := by
  induction t with
  | zero => simp [schedTo, Word32]
  | succ t ih =>
    rw [schedTo, List.getD_eq_getElem?_getD, List.getElem?_append]
    split
    · rw [← List.getD_eq_getElem?_getD]; exact ih
    · cases hj : j - (schedTo xs t).length with
      | zero => simp; split
                · exact num4_ok _ _ _ _
                · exact rotN_ok _ _
      | succ n => simp [Word32]
/-- The words of fewer rounds are those of more. -/
theorem schedTo_pre (xs : List Int) (t u j : Nat) (hj : j < t) (hu : t ≤ u) : (schedTo xs u).getD j 0 = (schedTo xs t).getD j 0 := by
  induction u with
  | zero => omega
  | succ u ih =>
    by_cases e : t = u + 1
    · rw [e]
    · rw [schedTo, List.getD_eq_getElem?_getD, List.getElem?_append_left (by rw [schedTo_len]; omega), ← List.getD_eq_getElem?_getD]
      exact ih (by omega)
theorem runH_ok (xs : List Int) (h : H5) (hh : h.ok) (t : Nat) : (runH xs h t).ok := by
  induction t with
  | zero => exact hh
  | succ t ih =>
    obtain ⟨h1, h2, h3, h4, h5⟩ := ih
    rw [runH, stepH]
    refine ⟨⟨Int.emod_nonneg _ (by decide), Int.emod_lt_of_pos _ (by decide)⟩, h1, ?_, h3, h4⟩
    dsimp only
    exact rotN_ok _ _
theorem mixH_ok (h : H5) (xs : List Int) : (mixH h xs).ok :=
  ⟨⟨Int.emod_nonneg _ (by decide), Int.emod_lt_of_pos _ (by decide)⟩, ⟨Int.emod_nonneg _ (by decide), Int.emod_lt_of_pos _ (by decide)⟩, ⟨Int.emod_nonneg _ (by decide), Int.emod_lt_of_pos _ (by decide)⟩, ⟨Int.emod_nonneg _ (by decide), Int.emod_lt_of_pos _ (by decide)⟩, ⟨Int.emod_nonneg _ (by decide), Int.emod_lt_of_pos _ (by decide)⟩⟩
end Go.Proofs.YtdlabapfcghfmaaGreatDoor
