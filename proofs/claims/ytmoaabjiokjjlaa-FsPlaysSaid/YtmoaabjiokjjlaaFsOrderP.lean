/- FsOrder, in plain words: files made one behind the other; a crash leaves some beginning of them, and of each a beginning. -/
import Derived.Test.YtmoaabjiokjjlaaFsP
namespace Go.Proofs.Ytmoaabjiokjjlaa
open Go.Maps Go.WideShapes
set_option linter.unusedVariables false
set_option linter.unusedSimpArgs false

def nmO (i : Nat) : Nm := [102, UInt8.ofNat (97 + i)]
theorem nmO_ok : ∀ i, i < 16 → okN (nmO i) = true := by decide
theorem nmO_up : ∀ j, j < 16 → ∀ i, i < j → bytesBefore (nmO i) (nmO j) = true := by decide
theorem insN_last (x : Nm × Nat) : ∀ l : Ns, (∀ p ∈ l, bytesBefore p.1 x.1 = true) → insN x l = l ++ [x]
  | [], _ => rfl
  | y :: r, h => by
    have hy := h y (by simp)
    have hn : ¬ bytesBefore x.1 y.1 = true := fun h' => by
      have := bytes_trans _ _ _ hy h'
      rw [WideAt.bytes_irrefl] at this
      cases this
    unfold insN
    rw [if_neg hn, insN_last x r (fun p hp => h p (by simp [hp]))]
    rfl
def rowO (j : Nat) : Ns := (List.range j).map fun i => (nmO i, i)
theorem rowO_succ (j : Nat) : rowO (j + 1) = rowO j ++ [(nmO j, j)] := by simp [rowO, List.range_succ]
theorem rowO_before {j : Nat} (h : j < 16) : ∀ p ∈ rowO j, bytesBefore p.1 (nmO j) = true := by
  intro p hp
  obtain ⟨i, hi, rfl⟩ := List.mem_map.1 hp
  exact nmO_up j h i (List.mem_range.1 hi)
theorem rowO_put {j : Nat} (h : j < 16) : putN (rowO j) (nmO j) j = rowO (j + 1) := by
  have hb := rowO_before h
  have hd : delN (rowO j) (nmO j) = rowO j := List.filter_eq_self.2 fun p hp => by
    have := before_ne (hb p hp)
    simpa using this
  rw [putN, hd, insN_last _ _ hb, rowO_succ]
theorem rowO_get_none {j : Nat} (h : j < 16) : getN (rowO j) (nmO j) = none := getN_none.2 fun p hp => before_ne (rowO_before h p hp)
theorem rowO_up : ∀ j, j ≤ 16 → Up (rowO j)
  | 0, _ => List.Pairwise.nil
  | j + 1, h => by rw [← rowO_put (by omega)]; exact putN_up (rowO_up j (by omega)) _ _
theorem rowO_get {j i : Nat} (h : j ≤ 16) (hi : i < j) : getN (rowO j) (nmO i) = some i := (getN_some (rowO_up j h)).2 (List.mem_map.2 ⟨i, List.mem_range.2 hi, rfl⟩)
def chO (j : Nat) : List Ch := (List.range j).map fun i => Ch.create (nmO i) i
theorem chO_succ (j : Nat) : chO (j + 1) = chO j ++ [.create (nmO j) j] := by simp [chO, List.range_succ]
theorem chO_take {n k : Nat} (h : k ≤ n) : (chO n).take k = chO k := by
  unfold chO
  rw [← List.map_take, List.take_range, Nat.min_eq_left h]
theorem replO : ∀ k, k ≤ 16 → repl [] (chO k) = rowO k
  | 0, _ => rfl
  | k + 1, h => by
    rw [chO_succ, repl_snoc, replO k (by omega)]
    exact rowO_put (by omega)
def flO (f : Nat → List Int) (j : Nat) : List Fl := (List.range j).map fun i => ⟨f i, 0⟩
theorem flO_succ (f : Nat → List Int) (j : Nat) : flO f (j + 1) = flO f j ++ [⟨f j, 0⟩] := by simp [flO, List.range_succ]
theorem flO_len (f : Nat → List Int) (j : Nat) : (flO f j).length = j := by simp [flO]
def ordS (q : Int) (f : Nat → List Int) (j : Nat) : Fs := ⟨q, flO f j, rowO j, [], chO j, -1, false⟩
def ordM (q : Int) (f : Nat → List Int) (j : Nat) : Fs := ⟨q, flO f j ++ [⟨[], 0⟩], rowO (j + 1), [], chO (j + 1), -1, false⟩
theorem ord_create (q : Int) (f : Nat → List Int) {j : Nat} (h : j < 16) : createF (ordS q f j) (nmO j) = (0, ordM q f j) := by
  have h1 := nmO_ok j h
  have h2 := rowO_get_none h
  have h3 := rowO_put h
  have h4 := chO_succ j
  simp [createF, ordS, namedF, h1, h2, burnOk, burnF, changeF, applyC, flO_len, h3, ordM, h4]
  rfl
theorem sum_le {l : List Nat} {c : Nat} (h : ∀ x ∈ l, x ≤ c) : l.sum ≤ l.length * c := by
  induction l with
  | nil => simp
  | cons y r ih =>
    rw [List.sum_cons, List.length_cons, Nat.add_mul, Nat.one_mul]
    have := ih (fun x hx => h x (by simp [hx]))
    have := h y (by simp)
    omega
theorem ord_append (q : Int) (f : Nat → List Int) {j : Nat} (h : j < 16) (hf : ∀ i, (f i).length ≤ 255) (hq : 10000 ≤ q) : appendF (ordM q f j) (nmO j) (f j) = (0, ordS q f (j + 1)) := by
  have h1 := nmO_ok j h
  have h2 := rowO_get (j := j + 1) (i := j) (by omega) (by omega)
  have hu : usedF (ordM q f j) ≤ (j + 1) * 255 := by
    unfold usedF
    refine Nat.le_trans (sum_le (c := 255) fun x hx => ?_) (by rw [List.length_map]; simp [ordM, rowO])
    obtain ⟨p, _, rfl⟩ := List.mem_map.1 hx
    unfold lenF ordM
    dsimp only
    cases hg : (flO f j ++ [(⟨[], 0⟩ : Fl)])[p.2]? with
    | none => simp
    | some y =>
      rcases List.mem_append.1 (List.mem_of_getElem? hg) with hm | hm
      · obtain ⟨i, _, rfl⟩ := List.mem_map.1 hm
        exact hf i
      · rw [List.mem_singleton.1 hm]; simp
  have h5 := hf j
  have h6 : ¬ ((f j).length : Int) > (ordM q f j).quota - usedF (ordM q f j) := by show ¬ ((f j).length : Int) > q - usedF (ordM q f j); omega
  have h7 : (flO f j ++ [(⟨[], 0⟩ : Fl)]).modify j (fun y => { y with b := y.b ++ f j }) = flO f (j + 1) := by
    rw [flO_succ]
    apply List.ext_getElem?
    intro i
    rw [List.getElem?_modify]
    by_cases hi : i < j
    · rw [List.getElem?_append_left (by rw [flO_len]; exact hi), List.getElem?_append_left (by rw [flO_len]; exact hi)]
      simp [show ¬ j = i by omega]
    · rw [List.getElem?_append_right (by rw [flO_len]; omega), List.getElem?_append_right (by rw [flO_len]; omega), flO_len]
      by_cases he : j = i
      · subst he
        simp
      · rw [show i - j = (i - j - 1) + 1 by omega]
        simp
  have h8 : ofF (ordM q f j) (nmO j) = 0 := by simp [ofF, ordM, namedF, h1, h2]
  have h9 : burnOk (ordM q f j) = true := rfl
  unfold appendF
  rw [if_neg (by rw [h8]; decide), if_neg h6, if_neg (by rw [h9]; decide)]
  unfold modF
  have h10 : getN (burnF (ordM q f j)).now (nmO j) = some j := h2
  rw [h10]
  show ((0 : Int), (⟨q, (flO f j ++ [(⟨[], 0⟩ : Fl)]).modify j (fun y => { y with b := y.b ++ f j }), rowO (j + 1), [], chO (j + 1), _, _⟩ : Fs)) = _
  rw [h7]
  rfl
theorem cutsO (D : List Int) : ∀ (m i : Nat) (F : List Fl) (j : Nat), (cutsF D i ((List.range' i m).map fun i => (nmO i, i)) F)[j]? = if i ≤ j ∧ j < i + m then F[j]?.map (cutF D j) else F[j]?
  | 0, i, F, j => by simp [cutsF]; omega
  | m + 1, i, F, j => by
    rw [List.range'_succ, List.map_cons, cutsF, cutsO D m (i + 1), List.getElem?_modify]
    by_cases e : i = j
    · subst e
      rw [if_neg (by omega), if_pos (by omega)]
      cases F[i]? <;> simp
    · by_cases h : i + 1 ≤ j ∧ j < i + 1 + m
      · rw [if_pos h, if_pos (by omega)]
        cases F[j]? <;> simp [e]
      · rw [if_neg h, if_neg (by omega)]
        cases F[j]? <;> simp [e]
def keepO (D : List Int) (f : Nat → List Int) (i : Nat) : Nat := keepF D i ⟨f i, 0⟩
theorem ord_crash (q : Int) (f : Nat → List Int) {n : Nat} (hn : n ≤ 16) (k : Int) (D : List Int) :
    let S := crashF (ordS q f n) k D
    let m := (min (max k 0) n).toNat
    m ≤ n ∧ S.dead = false ∧ S.now = rowO m ∧ ∀ i, i < m → ofF S (nmO i) = 0 ∧ bytesF S (nmO i) = (f i).take (keepO D f i) := by
  intro S m
  have hc : (chO n).length = n := by simp [chO]
  have hm : m ≤ n := by omega
  have hnow : S.now = rowO m := by
    show repl [] ((chO n).take (min (max k 0) (chO n).length).toNat) = rowO m
    rw [hc, chO_take hm]
    exact replO m (by omega)
  refine ⟨hm, rfl, hnow, fun i hi => ?_⟩
  have hg : getN S.now (nmO i) = some i := by rw [hnow]; exact rowO_get (by omega) hi
  constructor
  · unfold ofF namedF
    rw [hg, show S.dead = false from rfl]
    simp [nmO_ok i (by omega)]
  · unfold bytesF
    rw [hg]
    show ((S.files[i]?).map Fl.b).getD [] = _
    have hfl : S.files = cutsF D 0 (rowO m) (flO f n) := by
      show cutsF D 0 (repl [] ((chO n).take (min (max k 0) (chO n).length).toNat)) (flO f n) = _
      rw [hc, chO_take hm, replO m (by omega)]
    rw [hfl]
    have hr : rowO m = (List.range' 0 m).map fun i => (nmO i, i) := by rw [rowO, List.range_eq_range']
    rw [hr, cutsO, if_pos ⟨Nat.zero_le _, by rw [Nat.zero_add]; exact hi⟩]
    have hin : i < n := Nat.lt_of_lt_of_le hi hm
    have : (flO f n)[i]? = some ⟨f i, 0⟩ := by simp [flO, hin]
    rw [this]
    simp [cutF, keepO]
theorem list_all (S : Fs) (h : S.dead = false) : listF S [] = S.now.map (·.1) := by
  unfold listF
  rw [h, if_neg (by decide)]
  exact List.filter_eq_self.2 fun _ _ => rfl
end Go.Proofs.Ytmoaabjiokjjlaa
