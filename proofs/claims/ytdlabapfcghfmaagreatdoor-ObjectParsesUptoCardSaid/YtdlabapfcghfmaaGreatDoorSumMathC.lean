/- Plain laws on SHA-1: taken block by block, or with its padding at once, it is the same; the sum of no bytes. -/
import Derived.Test.YtdlabapfcghfmaaGreatDoorSumRefS
import Derived.Test.YtdlabapfcghfmaaGreatDoorSumRefU
namespace Go.Proofs.YtdlabapfcghfmaaGreatDoor
open Go.RowKit
set_option linter.unusedVariables false

theorem wordAt_app (x y : List Int) (h : 64 ≤ x.length) (t : Nat) (ht : t < 16) : wordAt (x ++ y) t = wordAt x t := by
  have e : ∀ j, j < 64 → (x ++ y).getD j 0 = x.getD j 0 := fun j hj => by
    rw [List.getD_eq_getElem?_getD, List.getD_eq_getElem?_getD, List.getElem?_append_left (by omega)]
  unfold wordAt
  rw [e _ (by omega), e _ (by omega), e _ (by omega), e _ (by omega)]
theorem schedTo_app (x y : List Int) (h : 64 ≤ x.length) (t : Nat) : schedTo (x ++ y) t = schedTo x t := by
  induction t with
  | zero => rfl
  | succ t ih =>
    rw [schedTo, schedTo, ih]
    by_cases ht : t < 16
    · rw [if_pos ht, if_pos ht, wordAt_app x y h t ht]
    · rw [if_neg ht, if_neg ht]
theorem runH_app (x y : List Int) (h : 64 ≤ x.length) (s : H5) (t : Nat) : runH (x ++ y) s t = runH x s t := by
  induction t with
  | zero => rfl
  | succ t ih => rw [runH, runH, ih, stepH, stepH, schedTo_app x y h]
theorem mixH_app (x y : List Int) (h : 64 ≤ x.length) (s : H5) : mixH s (x ++ y) = mixH s x := by
  unfold mixH; rw [runH_app x y h]
theorem fb_app (n : Nat) : ∀ (s : H5) (x y : List Int), 64 * n ≤ x.length → fb n s (x ++ y) = fb n s x := by
  induction n with
  | zero => intro s x y h; rfl
  | succ n ih =>
    intro s x y h
    rw [fb, fb, mixH_app x y (by omega), List.drop_append_of_le_length (by omega), ih _ _ _ (by simp; omega)]
theorem fb_add (a b : Nat) : ∀ (s : H5) (r : List Int), fb (a + b) s r = fb b (fb a s r) (r.drop (64 * a)) := by
  induction a with
  | zero => intro s r; simp [fb]
  | succ a ih =>
    intro s r
    rw [show a + 1 + b = (a + b) + 1 by omega, fb, ih, fb, List.drop_drop]
    congr 2
    omega
theorem shaMsg_len (r : List Int) (n : Int) : (shaMsg r n).length = r.length + 1 + padN r.length + 8 := by
  unfold shaMsg
  rw [List.length_append, List.length_append, padTo_len]
  rfl
theorem shaMsg_split (xs ys : List Int) (n : Int) (h : padN (xs ++ ys).length = padN ys.length) : shaMsg (xs ++ ys) n = xs ++ shaMsg ys n := by
  unfold shaMsg padTo
  rw [h]
  simp
theorem shaAll_eq (xs : List Int) : shaAll xs = shaTo (fb ((shaMsg xs (xs.length : Int)).length / 64) h0 (shaMsg xs (xs.length : Int))) 5 := by
  have hq : 64 * (xs.length / 64) ≤ xs.length := by omega
  have hd : (xs.drop (64 * (xs.length / 64))).length = xs.length % 64 := by rw [List.length_drop]; omega
  have ht : (xs.take (64 * (xs.length / 64))).length = 64 * (xs.length / 64) := List.length_take_of_le hq
  have e : shaMsg xs (xs.length : Int) = xs.take (64 * (xs.length / 64)) ++ shaMsg (xs.drop (64 * (xs.length / 64))) (xs.length : Int) := by
    have := shaMsg_split (xs.take (64 * (xs.length / 64))) (xs.drop (64 * (xs.length / 64))) (xs.length : Int) (by rw [List.take_append_drop, hd]; unfold padN; omega)
    rwa [List.take_append_drop] at this
  unfold shaAll shaOut
  rw [Int.zero_add, ← shaMsg_len (xs.drop (64 * (xs.length / 64))) (xs.length : Int)]
  congr 1
  rw [e]
  generalize shaMsg (xs.drop (64 * (xs.length / 64))) (xs.length : Int) = Y
  have hn : (xs.take (64 * (xs.length / 64)) ++ Y).length / 64 = xs.length / 64 + Y.length / 64 := by rw [List.length_append, ht]; omega
  rw [hn, fb_add, List.drop_append_of_le_length (by omega), List.drop_of_length_le (by omega), List.nil_append, fb_app _ _ _ _ (by omega)]
  congr 1
  have := fb_app (xs.length / 64) h0 (xs.take (64 * (xs.length / 64))) (xs.drop (64 * (xs.length / 64))) (by omega)
  rw [List.take_append_drop] at this
  exact this

/-! ### The sum of no bytes, reckoned in stages -/
def emW : List Int := [2147483648, 0, 0, 0, 0, 0, 0, 0, 0, 0, 0, 0, 0, 0, 0, 0, 1, 0, 0, 2, 0, 0, 4, 0, 2, 8, 0, 0, 16, 0, 10, 32, 6, 0, 64, 8, 40, 128, 8, 0, 264, 0, 160, 512, 100, 0, 1032, 136, 668, 2048, 128, 40, 4232, 0, 2624, 8192, 1640, 128, 16520, 2176, 10440, 32768, 2216, 128, 67816, 0, 40960, 131200, 25600, 0, 264192, 34816, 171024, 524288, 32896, 10272, 1083584, 0, 671936, 2097280]
def emS : List (List Int) := [[1732584193, 4023233417, 2562383102, 271733878, 3285377520],
  [531929267, 1732584193, 2079550178, 2562383102, 271733878],
  [1564730224, 531929267, 1506887872, 2079550178, 2562383102],
  [361574242, 1564730224, 3354207788, 1506887872, 2079550178],
  [3454860125, 361574242, 391182556, 3354207788, 1506887872],
  [1230198366, 3454860125, 2237877208, 391182556, 3354207788],
  [3830101862, 1230198366, 1937456855, 2237877208, 391182556],
  [3231547175, 3830101862, 2455033239, 1937456855, 2237877208],
  [2265401344, 3231547175, 3105009113, 2455033239, 1937456855],
  [1094149649, 2265401344, 4029112265, 3105009113, 2455033239],
  [3420192561, 1094149649, 566350336, 4029112265, 3105009113],
  [1075210611, 3420192561, 1347279236, 566350336, 4029112265],
  [2915098826, 1075210611, 1928789964, 1347279236, 566350336],
  [2227199666, 2915098826, 3490028124, 1928789964, 1347279236],
  [353552569, 2227199666, 2876258354, 3490028124, 1928789964],
  [1075325189, 353552569, 2704283564, 2876258354, 3490028124],
  [3640485191, 1075325189, 1162129966, 2704283564, 2876258354],
  [113217907, 3640485191, 1342573121, 1162129966, 2704283564],
  [682185230, 113217907, 4131346769, 1342573121, 1162129966],
  [187730141, 682185230, 3249529948, 4131346769, 1342573121],
  [3881363674, 187730141, 2318029955, 3249529948, 4131346769],
  [2431359056, 3881363674, 1120674359, 2318029955, 3249529948],
  [2109438077, 2431359056, 3117824566, 1120674359, 2318029955],
  [476368936, 2109438077, 607839764, 3117824566, 1120674359],
  [513259322, 476368936, 1601101343, 607839764, 3117824566],
  [1658320191, 513259322, 119092234, 1601101343, 607839764],
  [888395480, 1658320191, 2275798478, 119092234, 1601101343],
  [1328468417, 888395480, 3635805519, 2275798478, 119092234],
  [3350273581, 1328468417, 222098870, 3635805519, 2275798478],
  [2269870191, 3350273581, 1405858928, 222098870, 3635805519],
  [3393541835, 2269870191, 1911310219, 1405858928, 222098870],
  [1781417582, 3393541835, 3788693019, 1911310219, 1405858928],
  [1659518297, 1781417582, 4069610930, 3788693019, 1911310219],
  [3078335525, 1659518297, 2592838043, 4069610930, 3788693019],
  [1259554786, 3078335525, 1488621398, 2592838043, 4069610930],
  [958329028, 1259554786, 1843325705, 1488621398, 2592838043],
  [2881141128, 958329028, 2462372344, 1843325705, 1488621398],
  [82867817, 2881141128, 239582257, 2462372344, 1843325705],
  [2986440843, 82867817, 720285282, 239582257, 2462372344],
  [1646736209, 2986440843, 1094458778, 720285282, 239582257],
  [2614877553, 1646736209, 3967835682, 1094458778, 720285282],
  [2510961035, 2614877553, 1485425876, 3967835682, 1094458778],
  [1579739224, 2510961035, 1727461212, 1485425876, 3967835682],
  [2506368133, 1579739224, 3848965730, 1727461212, 1485425876],
  [4204071610, 2506368133, 394934806, 3848965730, 1727461212],
  [3726522881, 4204071610, 1700333857, 394934806, 3848965730],
  [2951124395, 3726522881, 3198501550, 1700333857, 394934806],
  [2710944400, 2951124395, 2005372544, 3198501550, 1700333857],
  [3872628547, 2710944400, 3959006570, 2005372544, 3198501550],
  [197826850, 3872628547, 677736100, 3959006570, 2005372544],
  [1793599231, 197826850, 4189382608, 677736100, 3959006570],
  [33501779, 1793599231, 2196940360, 4189382608, 677736100],
  [3797425376, 33501779, 3669625279, 2196940360, 4189382608],
  [1456370603, 3797425376, 3229600916, 3669625279, 2196940360],
  [2924930370, 1456370603, 949356344, 3229600916, 3669625279],
  [2240856296, 2924930370, 3585318122, 949356344, 3229600916],
  [3192540138, 2240856296, 2878716240, 3585318122, 949356344],
  [378331323, 3192540138, 560214074, 2878716240, 3585318122],
  [3786386210, 378331323, 2945618682, 560214074, 2878716240],
  [2553007050, 3786386210, 3315808302, 2945618682, 560214074],
  [2610768147, 2553007050, 3094080200, 3315808302, 2945618682],
  [3548231991, 2610768147, 2785735410, 3094080200, 3315808302],
  [2243547687, 3548231991, 3873917508, 2785735410, 3094080200],
  [3449355191, 2243547687, 4108283469, 3873917508, 2785735410],
  [3138331247, 3449355191, 3782112393, 4108283469, 3873917508],
  [3948495980, 3138331247, 4083564269, 3782112393, 4108283469],
  [3547473355, 3948495980, 4005808283, 4083564269, 3782112393],
  [286474739, 3547473355, 987123995, 4005808283, 4083564269],
  [3885693936, 286474739, 4108093810, 987123995, 4005808283],
  [2342520359, 3885693936, 3292844156, 4108093810, 987123995],
  [1346140896, 2342520359, 971423484, 3292844156, 4108093810],
  [1020598265, 1346140896, 3806855561, 971423484, 3292844156],
  [3028147982, 1020598265, 336535224, 3806855561, 971423484],
  [1580861312, 3028147982, 1328891390, 336535224, 3806855561],
  [1675311026, 1580861312, 2904520643, 1328891390, 336535224],
  [367627543, 1675311026, 395215328, 2904520643, 1328891390],
  [2954138727, 367627543, 2566311404, 395215328, 2904520643],
  [347541610, 2954138727, 3313132357, 2566311404, 395215328],
  [1718324166, 347541610, 3959760153, 3313132357, 2566311404],
  [1855823748, 1718324166, 2234369050, 3959760153, 3313132357],
  [1928626413, 1855823748, 2577064689, 2234369050, 3959760153]]
def emM : List Int := 128 :: List.replicate 63 0
def h5L (s : H5) : List Int := [s.a, s.b, s.c, s.d, s.e]
def h5of (l : List Int) : H5 := ⟨l.getD 0 0, l.getD 1 0, l.getD 2 0, l.getD 3 0, l.getD 4 0⟩
theorem h5of_L (s : H5) : h5of (h5L s) = s := rfl
def stepW (v : Int) (t : Nat) (s : H5) : H5 := ⟨(rotN 5 s.a + fT t s.b s.c s.d + s.e + kT t + v) % 4294967296, s.a, rotN 30 s.b, s.c, s.d⟩
def okW (t : Nat) : Bool := emW.getD t 0 == if t < 16 then wordAt emM t else nextW emW t
def okS (t : Nat) : Bool := emS.getD (t + 1) [] == h5L (stepW (emW.getD t 0) t (h5of (emS.getD t [])))
theorem okW_all : (List.range 80).all okW = true := by decide +kernel
theorem okS_all : (List.range 80).all okS = true := by decide +kernel
theorem emW_len : emW.length = 80 := by decide
theorem em_sched (t : Nat) (h : t ≤ 80) : schedTo emM t = emW.take t := by
  induction t with
  | zero => rfl
  | succ t ih =>
    have hk := List.all_eq_true.1 okW_all t (List.mem_range.2 (by omega))
    have hk := eq_of_beq hk
    rw [schedTo, ih (by omega), List.take_succ_eq_append_getElem (by rw [emW_len]; omega)]
    congr 2
    rw [List.getD_eq_getElem?_getD, List.getElem?_eq_getElem (by rw [emW_len]; omega), Option.getD_some] at hk
    rw [hk]
    by_cases h16 : t < 16
    · rw [if_pos h16, if_pos h16]
    · rw [if_neg h16, if_neg h16]
      have e : ∀ j, j < t → (emW.take t).getD j 0 = emW.getD j 0 := fun j hj => by
        rw [List.getD_eq_getElem?_getD, List.getD_eq_getElem?_getD, List.getElem?_take_of_lt hj]
      unfold nextW
      rw [e _ (by omega), e _ (by omega), e _ (by omega), e _ (by omega)]
theorem em_run (t : Nat) (h : t ≤ 80) : runH emM h0 t = h5of (emS.getD t []) := by
  induction t with
  | zero => rfl
  | succ t ih =>
    have hk := List.all_eq_true.1 okS_all t (List.mem_range.2 (by omega))
    have hk := eq_of_beq hk
    rw [hk, h5of_L, runH, ih (by omega)]
    unfold stepH stepW
    rw [em_sched 80 (Nat.le_refl _), List.take_of_length_le (Nat.le_of_eq emW_len)]
theorem em_mix : mixH h0 emM = ⟨3661210606, 1584089869, 844480495, 2506102928, 2950170377⟩ := by
  unfold mixH
  rw [em_run 80 (Nat.le_refl _)]
  have e : ∀ a b c d e a' b' c' d' e' : Int, a = a' → b = b' → c = c' → d = d' → e = e' → H5.mk a b c d e = H5.mk a' b' c' d' e' := by
    intro a b c d e a' b' c' d' e' h1 h2 h3 h4 h5; rw [h1, h2, h3, h4, h5]
  exact e _ _ _ _ _ _ _ _ _ _ (by decide +kernel) (by decide +kernel) (by decide +kernel) (by decide +kernel) (by decide +kernel)
theorem em_msg : shaMsg [] 0 = emM := by decide +kernel
theorem sha_empty : shaAll [] = [218, 57, 163, 238, 94, 107, 75, 13, 50, 85, 191, 239, 149, 96, 24, 144, 175, 216, 7, 9] := by
  rw [shaAll_eq]
  show shaTo (fb ((shaMsg [] 0).length / 64) h0 (shaMsg [] 0)) 5 = _
  rw [em_msg, show emM.length / 64 = 1 from by decide]
  show shaTo (mixH h0 emM) 5 = _
  rw [em_mix]
  decide +kernel
theorem crc_nine : (crcTo 4294967295 [49, 50, 51, 52, 53, 54, 55, 56, 57] : Nat) = 873187033 := by decide +kernel
theorem ad_nine : adTo (1, 0) [87, 105, 107, 105, 112, 101, 100, 105, 97] = (920, 4582) := by decide +kernel
theorem hex_empty : hexL [218, 57, 163, 238, 94, 107, 75, 13, 50, 85, 191, 239, 149, 96, 24, 144, 175, 216, 7, 9] = [100, 97, 51, 57, 97, 51, 101, 101, 53, 101, 54, 98, 52, 98, 48, 100, 51, 50, 53, 53, 98, 102, 101, 102, 57, 53, 54, 48, 49, 56, 57, 48, 97, 102, 100, 56, 48, 55, 48, 57] := by decide +kernel
end Go.Proofs.YtdlabapfcghfmaaGreatDoor
