/- What is wrong with names: named, of. -/
import Derived.Test.YtmoaabjiokjjlaaFsA
import Derived.Test.YtmoaabjiokjjlaaShelfFs
namespace Go.Proofs.Ytmoaabjiokjjlaa
open Go.RowKit
set_option linter.unusedVariables false
set_option linter.unusedSimpArgs false

/-- A row of texts. -/
def StrA (w : World) (A : Option Addr) (P : List ByteArray) : Prop :=
  0 < P.length → ∃ g off, A = some ⟨g, off, none⟩ ∧ g < w.heap.size ∧ ∀ i s, P[i]? = some s → w.cell? ⟨g, off + i, none⟩ = some (.string s)
theorem StrA.below {w w' : World} {A : Option Addr} {P : List ByteArray} (h : StrA w A P) (hb : Below w.heap.size w w') : StrA w' A P := fun hl => by
  obtain ⟨g, off, h1, h2, h3⟩ := h hl
  exact ⟨g, off, h1, Nat.lt_of_lt_of_le h2 hb.size, fun i s hs => (hb.cell h2).trans (h3 i s hs)⟩
theorem idx_neg (c : UInt8) : ∀ (l : List UInt8), (Lib.indexByte l c = -1 ∧ c ∉ l) ∨ (0 ≤ Lib.indexByte l c ∧ c ∈ l)
  | [] => .inl ⟨rfl, by simp⟩
  | b :: l => by
    unfold Lib.indexByte
    by_cases h : b = c
    · subst h
      exact .inr ⟨by rw [if_pos (by simp)]; decide, by simp⟩
    · have hb : (b == c) = false := by simpa using h
      rw [hb, if_neg (by decide)]
      rcases idx_neg c l with ⟨h1, h2⟩ | ⟨h1, h2⟩
      · left
        rw [h1]
        exact ⟨rfl, by simp [h2]; exact fun e => h e.symm⟩
      · right
        have : (Lib.indexByte l c == -1) = false := by rw [beq_eq_false_iff_ne]; omega
        rw [this, if_neg (by decide)]
        exact ⟨by omega, by simp [h2]⟩
theorem okN_of (s : ByteArray) : okN s.data.toList = (decide (1 ≤ s.size) && (decide (s.size ≤ 200) && !decide ((0 : UInt8) ∈ s.data.toList))) := by
  unfold okN
  rw [← Lib.size_eq]
  congr 3
  rw [Bool.eq_iff_iff]
  simp
def nmsOf (P : List ByteArray) : List Nm := P.map fun s => s.data.toList
theorem all_drop {P : List ByteArray} {k : Nat} {s : ByteArray} (h : P[k]? = some s) : ((nmsOf P).drop k).all okN = (okN s.data.toList && ((nmsOf P).drop (k + 1)).all okN) := by
  have hg : (nmsOf P)[k]? = some s.data.toList := by unfold nmsOf; rw [List.getElem?_map, h]; rfl
  obtain ⟨hl, he⟩ := List.getElem?_eq_some_iff.1 hg
  rw [List.drop_eq_getElem_cons hl, List.all_cons, he]
set_option maxRecDepth 100000 in
set_option maxHeartbeats 2000000 in
theorem named_any (w : World) (F : Nat → Prop) (q : Pl) (S : Fs) (h : FsAt w F q S) (A : Option Addr) (n c : Nat) (P : List ByteArray) (hP : StrA w A P) (hn : P.length = n) (hb : n ≤ 1000) (hs : ∀ s ∈ P, s.size ≤ 9223372036854775807) :
    Calls Try.prog 32 #[ptrV q.p, .slice A n c] w fun e w' => e = .returned (.int .i64 (namedF S (nmsOf P))) ∧ w' = w := by
  have c5 := h.c5
  unfold ptrV namedF
  clear h
  generalize S.dead = d at *
  cases d
  · have HR : Hid (∀ x : Bool, x = (nmsOf P).all okN → (if false = true then (50 : Int) else if (nmsOf P).all okN = true then 0 else 1) = if x = true then 0 else 1) := Lib.hid (by rintro x rfl; rfl)
    generalize (if false = true then (50 : Int) else if (nmsOf P).all okN = true then 0 else 1) = RES at *
    have HPP := Lib.hid hP
    have HN := Lib.hid hn
    have HS := Lib.hid hs
    clear hP hn hs
    have hz : ((0 : Int).toNat.toUInt8) = 0 := rfl
    go_enter Try.func32, Try.ntmps32
    go_wp2
    go_loopw [13] (fun vi wr => ∃ k : Nat, vi = .int .i64 k ∧ k ≤ n ∧ wr = w ∧ ((nmsOf P).drop k).all okN = (nmsOf P).all okN) (fun vi _ => n - (intOf vi).toNat)
    case atStart => exact ⟨0, rfl, Nat.zero_le _, rfl, by rw [List.drop_zero]⟩
    case round =>
      obtain ⟨k, rfl, hk, rfl, hall⟩ := hrel
      have HA := Lib.hid hall
      clear hall
      by_cases hlt : k < n
      · obtain ⟨s, hks⟩ : ∃ s, P[k]? = some s := ⟨_, List.getElem?_eq_getElem (by rw [HN.out]; exact hlt)⟩
        obtain ⟨eb, eo, rfl, heb, hcell⟩ := HPP.out (by rw [HN.out]; omega)
        have r0 := hcell k s hks
        have d2 : decide ((k : Int) < (n : Int)) = true := decide_eq_true (by omega)
        have d2' : decide (k < n) = true := decide_eq_true hlt
        have hsz := HS.out s (List.mem_of_getElem? hks)
        have HAL := Lib.hid (all_drop hks)
        have HOK := Lib.hid (okN_of s)
        have hix := Try.strings_IndexByte s 0 wr
        rw [hz] at hix
        have hne := idx_neg 0 s.data.toList
        clear hcell hks heb
        generalize hsize : s.size = z at *
        have HZ := Lib.hid hsize
        clear hsize
        generalize Lib.indexByte s.data.toList 0 = ix at *
        by_cases h1 : z < 1
        · have q1 : decide ((z : Int) < 1) = true := decide_eq_true (by omega)
          have HF : Hid (RES = 1) := Lib.hid (by rw [HR.out false (by rw [← HA.out, HAL.out, HOK.out, decide_eq_false (by omega)]; rfl)]; rfl)
          have hs0 : s.size = z := HZ.out
          clear hix hne h1
          go_wp2
          go_ret
          exact ⟨by rw [HF.out]; rfl, rfl⟩
        · have q1 : decide ((z : Int) < 1) = false := decide_eq_false (by omega)
          by_cases h2 : 200 < z
          · have q2 : decide ((z : Int) > 200) = true := decide_eq_true (by omega)
            have HF : Hid (RES = 1) := Lib.hid (by rw [HR.out false (by rw [← HA.out, HAL.out, HOK.out, decide_eq_true (by omega : 1 ≤ z), decide_eq_false (by omega : ¬ z ≤ 200)]; rfl)]; rfl)
            have hs0 : s.size = z := HZ.out
            clear hix hne h1
            go_wp2
            go_ret
            exact ⟨by rw [HF.out]; rfl, rfl⟩
          · have q2 : decide ((z : Int) > 200) = false := decide_eq_false (by omega)
            have hs0 : s.size = z := HZ.out
            rcases hne with ⟨rfl, hno⟩ | ⟨hge, hyes⟩
            · have HF : Hid (((nmsOf P).drop (k + 1)).all okN = (nmsOf P).all okN) := Lib.hid (by rw [← HA.out, HAL.out, HOK.out, decide_eq_true (by omega : 1 ≤ z), decide_eq_true (by omega : z ≤ 200), decide_eq_false hno]; rfl)
              clear h1 h2 hno
              go_wp2_with (go_at_call 52; refine hix.mono ?_; rintro e w1 ⟨rfl, rfl⟩)
              go_roundw
              case rel => exact ⟨k + 1, rfl, by omega, by first | rfl | trivial, HF.out⟩
              case measure => simp [intOf]; omega
            · have q3 : decide (ix ≥ 0) = true := decide_eq_true hge
              have q3' : decide (0 ≤ ix) = true := decide_eq_true hge
              have HF : Hid (RES = 1) := Lib.hid (by rw [HR.out false (by rw [← HA.out, HAL.out, HOK.out, decide_eq_true (by omega : 1 ≤ z), decide_eq_true (by omega : z ≤ 200), decide_eq_true hyes]; rfl)]; rfl)
              clear h1 h2 hyes
              go_wp2_with (go_at_call 52; refine hix.mono ?_; rintro e w1 ⟨rfl, rfl⟩)
              go_ret
              exact ⟨by rw [HF.out]; rfl, rfl⟩
      · obtain rfl : n = k := by omega
        have d2 : decide ((n : Int) < (n : Int)) = false := decide_eq_false (by omega)
        have d2' : decide (n < n) = false := decide_eq_false (by omega)
        have HF : Hid (RES = 0) := Lib.hid (by rw [HR.out true (by rw [← HA.out, List.drop_eq_nil_of_le (by unfold nmsOf; rw [List.length_map, HN.out]; exact Nat.le_refl _)]; rfl)]; rfl)
        go_wp2
        go_ret
        exact ⟨by rw [HF.out]; rfl, rfl⟩
  · have HR : Hid ((if true = true then (50 : Int) else if (nmsOf P).all okN = true then 0 else 1) = 50) := Lib.hid rfl
    generalize (if true = true then (50 : Int) else if (nmsOf P).all okN = true then 0 else 1) = RES at *
    clear hP hn hs
    go_enter Try.func32, Try.ntmps32
    go_wp2
    go_ret
    simp
    exact HR.out.symm
/-- What 'of' answers. -/
def OfPost (q : Pl) (S : Fs) (n : Nm) (w : World) (e : Ending) (w' : World) : Prop :=
  Below w.heap.size w w' ∧ ((ofF S n ≠ 0 ∧ e = .returned (.tuple #[.pointer none, .int .i64 (ofF S n)])) ∨ (ofF S n = 0 ∧ ∃ i, getN S.now n = some i ∧ e = .returned (.tuple #[ptrV (q.fb i), .int .i64 0])))
theorem namedF_cases (S : Fs) (l : List Nm) : namedF S l = 50 ∨ namedF S l = 0 ∨ namedF S l = 1 := by
  unfold namedF
  split
  · exact .inl rfl
  · split
    · exact .inr (.inl rfl)
    · exact .inr (.inr rfl)
theorem strA_one (w : World) (s : ByteArray) : StrA (w.alloc (.cells #[.string s] 9)) (some ⟨w.heap.size, 0, none⟩) [s] := fun _ =>
  ⟨w.heap.size, 0, rfl, by simp, fun i t h => by
    rcases i with _ | i
    · injection h with h
      subst h
      rw [World.cell?_alloc_at _ _ _ _ (by simp)]; rfl
    · simp at h⟩
set_option maxRecDepth 100000 in
set_option maxHeartbeats 2000000 in
theorem of_any (w : World) (F : Nat → Prop) (q : Pl) (S : Fs) (h : FsAt w F q S) (s : ByteArray) (hs : s.size ≤ 9223372036854775807) :
    Calls Try.prog 34 #[ptrV q.p, .string s] w (OfPost q S s.data.toList w) := by
  have hl0 : Below w.heap.size w (w.alloc (.cells #[.string s] 9)) := (Below.refl _ _).alloc (Nat.le_refl _) _
  have h0 := h.below hl0
  have HNM := Lib.hid (named_any _ F q S h0 (some ⟨w.heap.size, 0, none⟩) 1 1 [s] (strA_one w s) rfl (by decide) (by intro t ht; rw [List.mem_singleton.1 ht]; exact hs))
  have HLK := Lib.hid (h0.now.look s hs)
  have c1 := h0.c1
  have HPO : Hid (∀ e w', OfPost q S s.data.toList w e w' = (Below w.heap.size w w' ∧ ((ofF S s.data.toList ≠ 0 ∧ e = .returned (.tuple #[.pointer none, .int .i64 (ofF S s.data.toList)])) ∨ (ofF S s.data.toList = 0 ∧ ∃ i, getN S.now s.data.toList = some i ∧ e = .returned (.tuple #[ptrV (q.fb i), .int .i64 0]))))) := Lib.hid (fun _ _ => rfl)
  generalize OfPost q S s.data.toList w = POST at *
  have hof : ofF S s.data.toList = if namedF S [s.data.toList] ≠ 0 then namedF S [s.data.toList] else if getN S.now s.data.toList = none then 61 else 0 := rfl
  have HOF := Lib.hid hof
  have HL := Lib.hid hl0
  change Hid (Calls _ _ _ _ fun e w' => e = .returned (.int .i64 (namedF S [s.data.toList])) ∧ w' = _) at HNM
  have hc := namedF_cases S [s.data.toList]
  clear h h0 hl0 hof hs
  generalize ofF S s.data.toList = of at *
  generalize namedF S [s.data.toList] = nm at *
  unfold ptrV at *
  go_enter Try.func34, Try.ntmps34
  go_upto_region 2 with (go_at_call 32; refine HNM.out.mono ?_; rintro e w1 ⟨rfl, rfl⟩)
  generalize w.alloc (.cells #[.string s] 9) = w1 at *
  by_cases h0 : nm = 0
  · subst h0
    have hlk := HLK.out
    cases hg : getN S.now s.data.toList with
    | none =>
      rw [hg] at hlk
      unfold optV at hlk
      have HO : Hid (of = 61) := Lib.hid (by rw [HOF.out, if_neg (by decide), if_pos hg])
      clear hg
      go_wp2
      rw [HPO.out, HO.out]
      exact ⟨HL.out, .inl ⟨by decide, rfl⟩⟩
    | some i =>
      rw [hg] at hlk
      unfold optV ptrV at hlk
      have HO : Hid (of = 0) := Lib.hid (by rw [HOF.out, if_neg (by decide), if_neg (by rw [hg]; simp)])
      have HG := Lib.hid hg
      clear hg
      go_wp2
      rw [HPO.out, HO.out]
      exact ⟨HL.out, .inr ⟨rfl, i, HG.out, rfl⟩⟩
  · have q0 : (nm == 0) = false := by rw [beq_eq_false_iff_ne]; exact h0
    have q1 : (nm != 0) = true := by simp [h0]
    have HO : Hid (of = nm) := Lib.hid (by rw [HOF.out, if_pos h0])
    have H0 := Lib.hid h0
    clear h0 hc
    go_wp2
    rw [HPO.out, HO.out]
    exact ⟨HL.out, .inl ⟨H0.out, rfl⟩⟩
end Go.Proofs.Ytmoaabjiokjjlaa
