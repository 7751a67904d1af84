/- NameStars: plain, and its walk. -/
import Derived.Test.YtbaokenjkbabnaaDoorNmL
import Derived.Test.YtbaokenjkbabnaaDoorNmK
namespace Go.Proofs.YtbaokenjkbabnaaDoor
open Go.RowKit
set_option linter.unusedVariables false

def preL : List (List UInt8) := [[114, 101, 102, 115, 47, 104, 101, 97, 100, 115, 47], [114, 101, 102, 115, 47, 116, 97, 103, 115, 47, 118], [114, 101, 102, 115, 47, 114, 101, 109, 111, 116, 101, 115, 47, 111, 47], [114, 101, 102, 115, 47, 120, 45]]
def endL : List (List UInt8) := [[], [47, 122], [46, 49], [45, 113]]
/-- A pattern of the two pieces. -/
def patL (a e : List UInt8) : List UInt8 := a ++ ([42] ++ e)
theorem pats : (preL.all fun a => endL.all fun e => (sideL (patL a e) == (true, true)) && ((patL a e).count 58 == 0) && (a.count 42 == 0) && (e.count 42 == 0) && !Lib.hasPrefix (patL a e) [43] && decide (a.length ≤ 20) && decide (e.length ≤ 20) && decide (0 < a.length)) = true := by kernel_rfl
structure Pat (a e : List UInt8) : Prop where
  side : sideL (patL a e) = (true, true)
  c58 : (patL a e).count 58 = 0
  c42 : a.count 42 = 0
  e42 : e.count 42 = 0
  plus : Lib.hasPrefix (patL a e) [43] = false
  al : a.length ≤ 20
  el : e.length ≤ 20
  a0 : 0 < a.length
theorem pat_of {m n : Nat} (hm : m < 4) (hn : n < 4) : Pat (preL.getD m []) (endL.getD n []) := by
  have h := pats
  rw [List.all_eq_true] at h
  have h1 := h (preL.getD m []) (by
    have : m = 0 ∨ m = 1 ∨ m = 2 ∨ m = 3 := by omega
    rcases this with rfl | rfl | rfl | rfl <;> simp [preL])
  rw [List.all_eq_true] at h1
  have h2 := h1 (endL.getD n []) (by
    have : n = 0 ∨ n = 1 ∨ n = 2 ∨ n = 3 := by omega
    rcases this with rfl | rfl | rfl | rfl <;> simp [endL])
  simp only [Bool.and_eq_true, beq_iff_eq, Bool.not_eq_true', decide_eq_true_eq] at h2
  obtain ⟨⟨⟨⟨⟨⟨⟨k1, k2⟩, k3⟩, k4⟩, k5⟩, k6⟩, k7⟩, k8⟩ := h2
  exact ⟨k1, k2, k3, k4, k5, k6, k7, k8⟩
theorem parse_of (f : Bool) (src dst : List UInt8) (h58 : src.count 58 = 0) (hp : f = false → Lib.hasPrefix (src ++ 58 :: dst) [43] = false) (hk : okL src dst true = true) : parseL (textL ⟨f, src, dst⟩) = some ⟨f, src, dst⟩ := by
  have hbody : bodyL (textL ⟨f, src, dst⟩) = src ++ 58 :: dst ∧ plusL (textL ⟨f, src, dst⟩) = f := by
    unfold bodyL textL plusL
    cases f
    · have := hp rfl
      simp only [List.nil_append, Bool.false_eq_true, if_false, List.singleton_append]
      rw [this]
      simp
    · simp [Lib.hasPrefix]
  obtain ⟨i1, i2⟩ := idx_colon src dst (List.count_eq_zero.1 h58)
  have hcol : colonL (src ++ 58 :: dst) = true := by unfold colonL; exact decide_eq_true i2
  have hsrc : srcL (src ++ 58 :: dst) = src := by unfold srcL; rw [hcol, i1]; simp
  have hdst : dstL (src ++ 58 :: dst) = dst := by unfold dstL; rw [hcol, i1]; simp
  unfold parseL
  rw [hbody.1, hbody.2, hsrc, hdst, hcol, hk]
  rfl
section
variable {a e b g : List UInt8}
theorem pat_ne (h : Pat a e) : patL a e ≠ [] := by
  unfold patL
  cases a with
  | nil => have := h.a0; simp at this
  | cons x xs => simp
theorem pat_idx (h : Pat a e) : idx (patL a e) 42 = a.length ∧ (patL a e).count 42 = 1 ∧ (patL a e).drop (a.length + 1) = e ∧ (patL a e).take a.length = a := by
  have h2 : (patL a e)[a.length]? = some 42 := by unfold patL; rw [List.getElem?_append_right (Nat.le_refl _)]; simp
  have h3 : (patL a e).take a.length = a := by unfold patL; simp
  refine ⟨idx_first _ _ h2 (by rw [h3]; exact h.c42), ?_, ?_, h3⟩
  · unfold patL
    rw [List.count_append, List.count_append, h.c42, h.e42]
    rfl
  · unfold patL
    rw [List.drop_append]
    simp
theorem pat_ok (h : Pat a e) (k : Pat b g) : okL (patL a e) (patL b g) true = true := by
  unfold okL
  rw [if_neg (pat_ne h), if_neg (pat_ne h), h.side, k.side]
  rfl
theorem pat_parse (h : Pat a e) (k : Pat b g) (f : Bool) : parseL (textL ⟨f, patL a e, patL b g⟩) = some ⟨f, patL a e, patL b g⟩ := by
  refine parse_of f _ _ h.c58 (fun _ => ?_) (pat_ok h k)
  have hp := h.plus
  unfold Lib.hasPrefix at hp ⊢
  cases hq : patL a e with
  | nil => exact absurd hq (pat_ne h)
  | cons x xs =>
    rw [hq] at hp
    have hpx : ∀ y : List UInt8, List.isPrefixOf [43] (x :: y) = ((43 : UInt8) == x) := fun y => by simp [List.isPrefixOf]
    rw [hpx] at hp
    rw [List.cons_append, hpx]
    exact hp
theorem pat_good (h : Pat a e) (k : Pat b g) (f : Bool) : Good ⟨f, patL a e, patL b g⟩ := (parse_good (pat_parse h k f)).1
def fillL (a s e : List UInt8) : List UInt8 := a ++ (s ++ e)
theorem pat_map (h : Pat a e) (k : Pat b g) (f : Bool) (s : List UInt8) : mapL ⟨f, patL a e, patL b g⟩ (fillL a s e) = if validN (fillL b s g) = true then some (fillL b s g) else none := by
  obtain ⟨h1, h2, h3, h4⟩ := pat_idx h
  obtain ⟨k1, k2, k3, k4⟩ := pat_idx k
  have hl : (patL a e).length = a.length + 1 + e.length := by unfold patL; simp only [List.length_append, List.length_singleton]; omega
  unfold mapL
  simp only
  rw [if_neg (by omega)]
  have hm : midL ⟨f, patL a e, patL b g⟩ (fillL a s e) = s := by
    unfold midL
    simp only
    rw [h1, hl]
    unfold fillL
    rw [List.drop_left]
    have : (a ++ (s ++ e)).length - a.length - (a.length + 1 + e.length - (a.length + 1)) = s.length := by simp only [List.length_append]; omega
    rw [this, List.take_left]
  have hok : midOk ⟨f, patL a e, patL b g⟩ (fillL a s e) = true := by
    unfold midOk
    simp only
    rw [h1, h3, h4]
    unfold fillL
    rw [List.drop_left]
    unfold Lib.hasPrefix Lib.hasSuffix
    rw [Bool.and_eq_true, List.isPrefixOf_iff_prefix, List.isSuffixOf_iff_suffix]
    exact ⟨List.prefix_append _ _, List.suffix_append _ _⟩
  have hs : subst (patL b g) s = fillL b s g := by
    unfold subst
    rw [k1, k3, k4]
    unfold fillL
    rw [List.append_assoc]
  rw [hm, hok, hs, Bool.true_and]
end
theorem and3 (n : Int) : bits .and .i64 n 3 = n % 4 := by
  have h3 : (BitVec.ofInt 64 3).toNat = 2 ^ 2 - 1 := by decide
  have key : (BitVec.ofInt 64 n &&& BitVec.ofInt 64 3).toNat = (n % ((2 ^ 64 : Nat) : Int)).toNat % 2 ^ 2 := by
    rw [BitVec.toNat_and, BitVec.toNat_ofInt, h3, Nat.and_two_pow_sub_one_eq_mod]
  show IntKind.i64.wrap ((BitVec.ofInt 64 n &&& BitVec.ofInt 64 3).toNat : Nat) = n % 4
  rw [key, IntKind.wrap_i64]
  omega
theorem cell4 {w : World} {x y z u : ByteArray} {t : TypeId} (l : List (List UInt8)) (hl : l = [x.data.toList, y.data.toList, z.data.toList, u.data.toList]) (m : Nat) (hm : m < 4) : (w.alloc (.cells #[.string x, .string y, .string z, .string u] t)).cell? ⟨w.heap.size, m, none⟩ = some (.string (mk (l.getD m []))) := by
  rw [cell_of_row _ _ m _ _ (0, 0) (heap_alloc_new w _)]
  subst hl
  have : m = 0 ∨ m = 1 ∨ m = 2 ∨ m = 3 := by omega
  rcases this with rfl | rfl | rfl | rfl
  · simp [mk_of]
  · simp [mk_of]
  · simp [mk_of]
  · simp [mk_of]
set_option maxRecDepth 100000 in
set_option maxHeartbeats 4000000 in
theorem nameStars_walk (x y : Int) (s : ByteArray) (w : World) (hE : Env w) (fx : (Lit.int .i64 x).wf = true) (fy : (Lit.int .i64 y).wf = true) (hs : s.size ≤ 140737488351232) :
    Calls Tryd.prog 3 #[.int .i64 x, .int .i64 y, .string s] w fun e w' => e = .returned (.bool true) ∧ Below w.heap.size w w' := by
  have HA : Hid (∀ w', Below w.heap.size w w' → Calls Tryd.prog 9 #[] w' fun e w'' => e = .returned (.bool true) ∧ Below w'.heap.size w' w'') := fun w' hb => awake14_any w' (hE.below hb)
  have HE1 : Hid (∀ w', Below w.heap.size w w' → Env w') := fun w' hb => hE.below hb
  obtain ⟨m1, hm1, e1⟩ : ∃ m : Nat, m < 4 ∧ bits BinOp.and IntKind.i64 x 3 = (m : Int) := ⟨(x % 4).toNat, by omega, by rw [and3]; omega⟩
  obtain ⟨m2, hm2, e2⟩ : ∃ m : Nat, m < 4 ∧ bits BinOp.and IntKind.i64 y 3 = (m : Int) := ⟨(y % 4).toNat, by omega, by rw [and3]; omega⟩
  obtain ⟨n1, hn1, e3⟩ : ∃ m : Nat, m < 4 ∧ bits BinOp.and IntKind.i64 (x / 4) 3 = (m : Int) := ⟨(x / 4 % 4).toNat, by omega, by rw [and3]; omega⟩
  obtain ⟨n2, hn2, e4⟩ : ∃ m : Nat, m < 4 ∧ bits BinOp.and IntKind.i64 (y / 4) 3 = (m : Int) := ⟨(y / 4 % 4).toNat, by omega, by rw [and3]; omega⟩
  go_enter Tryd.func3, Tryd.ntmps3
  go_wp2
  have hB : Below w.heap.size w ((w.alloc (.cells #[.string ⟨#[114, 101, 102, 115, 47, 104, 101, 97, 100, 115, 47]⟩, .string ⟨#[114, 101, 102, 115, 47, 116, 97, 103, 115, 47, 118]⟩, .string ⟨#[114, 101, 102, 115, 47, 114, 101, 109, 111, 116, 101, 115, 47, 111, 47]⟩, .string ⟨#[114, 101, 102, 115, 47, 120, 45]⟩] 9)).alloc (.cells #[.string ⟨#[]⟩, .string ⟨#[47, 122]⟩, .string ⟨#[46, 49]⟩, .string ⟨#[45, 113]⟩] 9)) := ((Below.refl _ _).alloc (Nat.le_refl _) _).alloc (by simp) _
  have hl : ∀ m, m < 4 → ((w.alloc (.cells #[.string ⟨#[114, 101, 102, 115, 47, 104, 101, 97, 100, 115, 47]⟩, .string ⟨#[114, 101, 102, 115, 47, 116, 97, 103, 115, 47, 118]⟩, .string ⟨#[114, 101, 102, 115, 47, 114, 101, 109, 111, 116, 101, 115, 47, 111, 47]⟩, .string ⟨#[114, 101, 102, 115, 47, 120, 45]⟩] 9)).alloc (.cells #[.string ⟨#[]⟩, .string ⟨#[47, 122]⟩, .string ⟨#[46, 49]⟩, .string ⟨#[45, 113]⟩] 9)).cell? ⟨w.heap.size, m, none⟩ = some (.string (mk (preL.getD m []))) := fun m hm =>
    (World.cell?_alloc_lt _ _ ⟨w.heap.size, m, none⟩ (by simp)).trans (cell4 preL rfl m hm)
  have he : ∀ m, m < 4 → ((w.alloc (.cells #[.string ⟨#[114, 101, 102, 115, 47, 104, 101, 97, 100, 115, 47]⟩, .string ⟨#[114, 101, 102, 115, 47, 116, 97, 103, 115, 47, 118]⟩, .string ⟨#[114, 101, 102, 115, 47, 114, 101, 109, 111, 116, 101, 115, 47, 111, 47]⟩, .string ⟨#[114, 101, 102, 115, 47, 120, 45]⟩] 9)).alloc (.cells #[.string ⟨#[]⟩, .string ⟨#[47, 122]⟩, .string ⟨#[46, 49]⟩, .string ⟨#[45, 113]⟩] 9)).cell? ⟨w.heap.size + 1, m, none⟩ = some (.string (mk (endL.getD m []))) := fun m hm => by
    have := cell4 (w := w.alloc (.cells #[.string ⟨#[114, 101, 102, 115, 47, 104, 101, 97, 100, 115, 47]⟩, .string ⟨#[114, 101, 102, 115, 47, 116, 97, 103, 115, 47, 118]⟩, .string ⟨#[114, 101, 102, 115, 47, 114, 101, 109, 111, 116, 101, 115, 47, 111, 47]⟩, .string ⟨#[114, 101, 102, 115, 47, 120, 45]⟩] 9)) (t := 9) (x := ⟨#[]⟩) (y := ⟨#[47, 122]⟩) (z := ⟨#[46, 49]⟩) (u := ⟨#[45, 113]⟩) endL rfl m hm
    simpa using this
  generalize ((w.alloc (.cells #[.string ⟨#[114, 101, 102, 115, 47, 104, 101, 97, 100, 115, 47]⟩, .string ⟨#[114, 101, 102, 115, 47, 116, 97, 103, 115, 47, 118]⟩, .string ⟨#[114, 101, 102, 115, 47, 114, 101, 109, 111, 116, 101, 115, 47, 111, 47]⟩, .string ⟨#[114, 101, 102, 115, 47, 120, 45]⟩] 9)).alloc (.cells #[.string ⟨#[]⟩, .string ⟨#[47, 122]⟩, .string ⟨#[46, 49]⟩, .string ⟨#[45, 113]⟩] 9)) = w0 at *
  have hP1 := pat_of hm1 hn1
  have hP2 := pat_of hm2 hn2
  have c1 := hl m1 hm1
  have c2 := hl m2 hm2
  have c3 := he n1 hn1
  have c4 := he n2 hn2
  clear hl he
  generalize preL.getD m1 [] = A1 at *
  generalize preL.getD m2 [] = A2 at *
  generalize endL.getD n1 [] = E1 at *
  generalize endL.getD n2 [] = E2 at *
  have z1 : (mk A1).size ≤ 20 := by rw [mk_size]; exact hP1.al
  have z2 : (mk A2).size ≤ 20 := by rw [mk_size]; exact hP2.al
  have z3 : (mk E1).size ≤ 20 := by rw [mk_size]; exact hP1.el
  have z4 : (mk E2).size ≤ 20 := by rw [mk_size]; exact hP2.el
  have y1 : mk A1 ++ ⟨#[42]⟩ ++ mk E1 = mk (patL A1 E1) := by
    unfold patL
    rw [show (⟨#[42]⟩ : ByteArray) = mk [42] from rfl, mk_app, mk_app, List.append_assoc]
  have y2 : mk A2 ++ ⟨#[42]⟩ ++ mk E2 = mk (patL A2 E2) := by
    unfold patL
    rw [show (⟨#[42]⟩ : ByteArray) = mk [42] from rfl, mk_app, mk_app, List.append_assoc]
  have y3 : mk (patL A1 E1) ++ ⟨#[58]⟩ ++ mk (patL A2 E2) = mk (textL ⟨false, patL A1 E1, patL A2 E2⟩) := by
    unfold textL
    rw [show (⟨#[58]⟩ : ByteArray) = mk [58] from rfl, mk_app, mk_app, List.append_assoc]
    rfl
  have y4 : (⟨#[43]⟩ : ByteArray) ++ mk (patL A2 E2) ++ ⟨#[58]⟩ ++ mk (patL A1 E1) = mk (textL ⟨true, patL A2 E2, patL A1 E1⟩) := by
    unfold textL
    rw [show (⟨#[58]⟩ : ByteArray) = mk [58] from rfl, show (⟨#[43]⟩ : ByteArray) = mk [43] from rfl, mk_app, mk_app, mk_app, List.append_assoc, List.append_assoc]
    rfl
  have pl1 : (patL A1 E1).length ≤ 41 := by unfold patL; simp only [List.length_append, List.length_singleton]; have := hP1.al; have := hP1.el; omega
  have pl2 : (patL A2 E2).length ≤ 41 := by unfold patL; simp only [List.length_append, List.length_singleton]; have := hP2.al; have := hP2.el; omega
  have hp1 : ∀ w', Below w.heap.size w w' → Calls Tryd.prog 8 #[.string (mk (textL ⟨false, patL A1 E1, patL A2 E2⟩))] w' fun e w'' => e = .returned (.tuple #[.agg #[.bool false, .string (mk (patL A1 E1)), .string (mk (patL A2 E2))], .int .i64 0]) ∧ Below w'.heap.size w' w'' := fun w' hb => by
    have := parse_any (mk (textL ⟨false, patL A1 E1, patL A2 E2⟩)) w' (HE1.out _ hb) (by rw [mk_size]; have := text_len ⟨false, patL A1 E1, patL A2 E2⟩; simp only at this; omega)
    rw [mk_data, pat_parse hP1 hP2 false] at this
    exact this
  have hp2 : ∀ w', Below w.heap.size w w' → Calls Tryd.prog 8 #[.string (mk (textL ⟨true, patL A2 E2, patL A1 E1⟩))] w' fun e w'' => e = .returned (.tuple #[.agg #[.bool true, .string (mk (patL A2 E2)), .string (mk (patL A1 E1))], .int .i64 0]) ∧ Below w'.heap.size w' w'' := fun w' hb => by
    have := parse_any (mk (textL ⟨true, patL A2 E2, patL A1 E1⟩)) w' (HE1.out _ hb) (by rw [mk_size]; have := text_len ⟨true, patL A2 E2, patL A1 E1⟩; simp only at this; omega)
    rw [mk_data, pat_parse hP2 hP1 true] at this
    exact this
  have HP1 := Lib.hid hp1
  have HP2 := Lib.hid hp2
  have s1 : (mk (patL A1 E1)).size ≤ 41 := by rw [mk_size]; exact pl1
  have s2 : (mk (patL A2 E2)).size ≤ 41 := by rw [mk_size]; exact pl2
  have HPA := Lib.hid hP1
  have HPB := Lib.hid hP2
  clear hp1 hp2 hP1 hP2 pl1 pl2
  have i1 : (0 : Int) ≤ (m1 : Int) := by omega
  have i1' : (m1 : Int) < 4 := by omega
  have i2 : (0 : Int) ≤ (m2 : Int) := by omega
  have i2' : (m2 : Int) < 4 := by omega
  have i3 : (0 : Int) ≤ (n1 : Int) := by omega
  have i3' : (n1 : Int) < 4 := by omega
  have i4 : (0 : Int) ≤ (n2 : Int) := by omega
  have i4' : (n2 : Int) < 4 := by omega
  go_quiet (fail)
  have hB := Below.drewN hB nq
  have c1 : (w0.drewN nq).cell? ⟨w.heap.size, m1, none⟩ = some (.string (mk A1)) := c1
  have c2 : (w0.drewN nq).cell? ⟨w.heap.size, m2, none⟩ = some (.string (mk A2)) := c2
  have c3 : (w0.drewN nq).cell? ⟨w.heap.size + 1, n1, none⟩ = some (.string (mk E1)) := c3
  have c4 : (w0.drewN nq).cell? ⟨w.heap.size + 1, n2, none⟩ = some (.string (mk E2)) := c4
  have hlt : w.heap.size + 1 < (w0.drewN nq).heap.size := World.block_lt_of_cell? _ _ c3
  generalize w0.drewN nq = w0 at *
  clear i1 i2 i3 i4 i1' i2' i3' i4'
  go_wp2_with fail
  refine (HP1.out _ hB).mono ?_
  rintro e w1 ⟨rfl, hb1⟩
  have c1 := (hb1.cell (p := ⟨w.heap.size, m1, none⟩) (by simp only []; omega)).trans c1
  have c2 := (hb1.cell (p := ⟨w.heap.size, m2, none⟩) (by simp only []; omega)).trans c2
  have c3 := (hb1.cell (p := ⟨w.heap.size + 1, n1, none⟩) hlt).trans c3
  have c4 := (hb1.cell (p := ⟨w.heap.size + 1, n2, none⟩) hlt).trans c4
  have hlt := Nat.lt_of_lt_of_le hlt hb1.size
  have hB := hB.trans (hb1.mono hB.size)
  have hQ1 := cel_new3 w1 25 (.bool false) (.string (mk (patL A1 E1))) (.string (mk (patL A2 E2)))
  have hb2 : Below w1.heap.size w1 (w1.alloc (.cells #[.bool false, .string (mk (patL A1 E1)), .string (mk (patL A2 E2))] 25)) := (Below.refl _ _).alloc (Nat.le_refl _) _
  have c1 := (hb2.cell (p := ⟨w.heap.size, m1, none⟩) (by simp only []; omega)).trans c1
  have c2 := (hb2.cell (p := ⟨w.heap.size, m2, none⟩) (by simp only []; omega)).trans c2
  have c3 := (hb2.cell (p := ⟨w.heap.size + 1, n1, none⟩) hlt).trans c3
  have c4 := (hb2.cell (p := ⟨w.heap.size + 1, n2, none⟩) hlt).trans c4
  have hlt := Nat.lt_of_lt_of_le hlt hb2.size
  have hB := hB.trans (hb2.mono hB.size)
  clear hb1 hb2
  go_wp2_with fail
  refine (HP2.out _ hB).mono ?_
  rintro e w3 ⟨rfl, hb3⟩
  have c1 := (hb3.cell (p := ⟨w.heap.size, m1, none⟩) (by simp only []; omega)).trans c1
  have c2 := (hb3.cell (p := ⟨w.heap.size, m2, none⟩) (by simp only []; omega)).trans c2
  have c3 := (hb3.cell (p := ⟨w.heap.size + 1, n1, none⟩) hlt).trans c3
  have c4 := (hb3.cell (p := ⟨w.heap.size + 1, n2, none⟩) hlt).trans c4
  have hlt := Nat.lt_of_lt_of_le hlt hb3.size
  have hQ1 := hQ1.below hb3 hQ1.blk
  have hB := hB.trans (hb3.mono hB.size)
  have hQ2 := cel_new3 w3 25 (.bool true) (.string (mk (patL A2 E2))) (.string (mk (patL A1 E1)))
  have hb4 : Below w3.heap.size w3 (w3.alloc (.cells #[.bool true, .string (mk (patL A2 E2)), .string (mk (patL A1 E1))] 25)) := (Below.refl _ _).alloc (Nat.le_refl _) _
  have c1 := (hb4.cell (p := ⟨w.heap.size, m1, none⟩) (by simp only []; omega)).trans c1
  have c2 := (hb4.cell (p := ⟨w.heap.size, m2, none⟩) (by simp only []; omega)).trans c2
  have c3 := (hb4.cell (p := ⟨w.heap.size + 1, n1, none⟩) hlt).trans c3
  have c4 := (hb4.cell (p := ⟨w.heap.size + 1, n2, none⟩) hlt).trans c4
  have hlt := Nat.lt_of_lt_of_le hlt hb4.size
  have hQ1 := hQ1.below hb4 hQ1.blk
  have hB := hB.trans (hb4.mono hB.size)
  clear hb3 hb4
  obtain ⟨k0, k1, k2⟩ := cel3 hQ1
  obtain ⟨l0, l1, l2⟩ := cel3 hQ2
  by_cases h60 : 60 < s.size
  · have d1 : decide ((60 : Int) < (s.size : Int)) = true := decide_eq_true (by omega)
    have d1' : decide (60 < s.size) = true := decide_eq_true h60
    go_wp2_with fail
    refine (HA.out _ hB).mono ?_
    rintro e w5 ⟨rfl, hb5⟩
    go_wp2
    go_ret
    exact ⟨rfl, hB.trans (hb5.mono hB.size)⟩
  · have d1 : decide ((60 : Int) < (s.size : Int)) = false := decide_eq_false (by omega)
    have d1' : decide (60 < s.size) = false := decide_eq_false h60
    have x1 : mk A1 ++ s ++ mk E1 = mk (fillL A1 s.data.toList E1) := by
      unfold fillL
      conv => lhs; rw [← mk_of s]
      rw [mk_app, mk_app, List.append_assoc]
    have x2 : mk A2 ++ s ++ mk E2 = mk (fillL A2 s.data.toList E2) := by
      unfold fillL
      conv => lhs; rw [← mk_of s]
      rw [mk_app, mk_app, List.append_assoc]
    have fl1 : (fillL A1 s.data.toList E1).length ≤ 100 := by unfold fillL; simp only [List.length_append]; have := HPA.out.al; have := HPA.out.el; rw [← Lib.size_eq]; omega
    have fl2 : (fillL A2 s.data.toList E2).length ≤ 100 := by unfold fillL; simp only [List.length_append]; have := HPB.out.al; have := HPB.out.el; rw [← Lib.size_eq]; omega
    have hm1 : ∀ w', Below w.heap.size w w' → Calls Tryd.prog 10 #[.agg #[.bool false, .string (mk (patL A1 E1)), .string (mk (patL A2 E2))], .string (mk (fillL A1 s.data.toList E1))] w' fun e w'' => e = .returned (mapV (if validN (fillL A2 s.data.toList E2) = true then some (fillL A2 s.data.toList E2) else none)) ∧ Below w'.heap.size w' w'' := fun w' hb => by
      have := map_any ⟨false, patL A1 E1, patL A2 E2⟩ (mk (fillL A1 s.data.toList E1)) w' (HE1.out _ hb) (pat_good HPA.out HPB.out false) (by rw [mk_size]; omega)
      rw [mk_data, pat_map HPA.out HPB.out] at this
      exact this
    have hm2 : ∀ w', Below w.heap.size w w' → Calls Tryd.prog 10 #[.agg #[.bool true, .string (mk (patL A2 E2)), .string (mk (patL A1 E1))], .string (mk (fillL A2 s.data.toList E2))] w' fun e w'' => e = .returned (mapV (if validN (fillL A1 s.data.toList E1) = true then some (fillL A1 s.data.toList E1) else none)) ∧ Below w'.heap.size w' w'' := fun w' hb => by
      have := map_any ⟨true, patL A2 E2, patL A1 E1⟩ (mk (fillL A2 s.data.toList E2)) w' (HE1.out _ hb) (pat_good HPB.out HPA.out true) (by rw [mk_size]; omega)
      rw [mk_data, pat_map HPB.out HPA.out] at this
      exact this
    have hm3 : ∀ w', Below w.heap.size w w' → Calls Tryd.prog 10 #[.agg #[.bool true, .string (mk (patL A2 E2)), .string (mk (patL A1 E1))], .string ⟨#[]⟩] w' fun e w'' => e = .returned (mapV (mapL ⟨true, patL A2 E2, patL A1 E1⟩ [])) ∧ Below w'.heap.size w' w'' := fun w' hb =>
      map_any ⟨true, patL A2 E2, patL A1 E1⟩ ⟨#[]⟩ w' (HE1.out _ hb) (pat_good HPB.out HPA.out true) (by decide)
    have hv1 : ∀ w', Below w.heap.size w w' → Calls Tryd.prog 11 #[.string (mk (fillL A1 s.data.toList E1))] w' fun e w'' => e = .returned (.bool (validN (fillL A1 s.data.toList E1))) ∧ Below w'.heap.size w' w'' := fun w' hb => valid_any (mk (fillL A1 s.data.toList E1)) w' (HE1.out _ hb) (by rw [mk_size]; omega)
    have hv2 : ∀ w', Below w.heap.size w w' → Calls Tryd.prog 11 #[.string (mk (fillL A2 s.data.toList E2))] w' fun e w'' => e = .returned (.bool (validN (fillL A2 s.data.toList E2))) ∧ Below w'.heap.size w' w'' := fun w' hb => valid_any (mk (fillL A2 s.data.toList E2)) w' (HE1.out _ hb) (by rw [mk_size]; omega)
    generalize mapL ⟨true, patL A2 E2, patL A1 E1⟩ [] = M3 at *
    generalize validN (fillL A1 s.data.toList E1) = V1 at *
    generalize validN (fillL A2 s.data.toList E2) = V2 at *
    generalize fillL A1 s.data.toList E1 = F1 at *
    generalize fillL A2 s.data.toList E2 = F2 at *
    have HM1 := Lib.hid hm1
    have HM2 := Lib.hid hm2
    have HM3 := Lib.hid hm3
    have HV1 := Lib.hid hv1
    have HV2 := Lib.hid hv2
    clear hm1 hm2 hm3 hv1 hv2 fl1 fl2
    go_upto_region 8 with (fail)
    have i1 : (0 : Int) ≤ (m1 : Int) := by omega
    have i1' : (m1 : Int) < 4 := by omega
    have i2 : (0 : Int) ≤ (m2 : Int) := by omega
    have i2' : (m2 : Int) < 4 := by omega
    have i3 : (0 : Int) ≤ (n1 : Int) := by omega
    have i3' : (n1 : Int) < 4 := by omega
    have i4 : (0 : Int) ≤ (n2 : Int) := by omega
    have i4' : (n2 : Int) < 4 := by omega
    have sz : s.size ≤ 60 := by omega
    go_quiet (fail)
    have hB := Below.drewN hB nq
    have hQ1 := hQ1.drewN nq
    have hQ2 := hQ2.drewN nq
    clear c1 c2 c3 c4 k0 k1 k2 l0 l1 l2 i1 i2 i3 i4 i1' i2' i3' i4' hlt
    generalize ((w3.alloc (.cells #[.bool true, .string (mk (patL A2 E2)), .string (mk (patL A1 E1))] 25)).drewN nq) = w0 at *
    obtain ⟨k0, k1, k2⟩ := cel3 hQ1
    obtain ⟨l0, l1, l2⟩ := cel3 hQ2
    cases V2
    · have hm : Calls Tryd.prog 10 #[.agg #[.bool false, .string (mk (patL A1 E1)), .string (mk (patL A2 E2))], .string (mk F1)] _ fun e w'' => e = .returned (.tuple #[.string ⟨#[]⟩, .bool false]) ∧ Below _ _ w'' := (HM1.out _ hB).mono fun _ _ h => ⟨h.1.trans rfl, h.2⟩
      go_wp2_with fail
      refine (hm).mono ?_
      rintro e w5 ⟨rfl, hb5⟩
      have hB := hB.trans (hb5.mono hB.size)
      have hQ2 := hQ2.below hb5 hQ2.blk
      clear hb5 l0 l1 l2
      obtain ⟨l0, l1, l2⟩ := cel3 hQ2
      clear hm
      go_wp2_with fail
      refine (HV2.out _ hB).mono ?_
      rintro e w6 ⟨rfl, hb6⟩
      have hB := hB.trans (hb6.mono hB.size)
      have hQ2 := hQ2.below hb6 hQ2.blk
      clear hb6 l0 l1 l2
      obtain ⟨l0, l1, l2⟩ := cel3 hQ2
      cases M3 with
      | none =>
        have hm : Calls Tryd.prog 10 #[.agg #[.bool true, .string (mk (patL A2 E2)), .string (mk (patL A1 E1))], .string ⟨#[]⟩] _ fun e w'' => e = .returned (.tuple #[.string ⟨#[]⟩, .bool false]) ∧ Below _ _ w'' := (HM3.out _ hB).mono fun _ _ h => ⟨h.1.trans rfl, h.2⟩
        go_wp2_with fail
        refine (hm).mono ?_
        rintro e w7 ⟨rfl, hb7⟩
        have hB := hB.trans (hb7.mono hB.size)
        go_wp2_with fail
        refine (HA.out _ hB).mono ?_
        rintro e w8 ⟨rfl, hb8⟩
        have hB := hB.trans (hb8.mono hB.size)
        go_wp2
        go_ret
        exact ⟨rfl, hB⟩
      | some M =>
        have hm : Calls Tryd.prog 10 #[.agg #[.bool true, .string (mk (patL A2 E2)), .string (mk (patL A1 E1))], .string ⟨#[]⟩] _ fun e w'' => e = .returned (.tuple #[.string (mk M), .bool true]) ∧ Below _ _ w'' := (HM3.out _ hB).mono fun _ _ h => ⟨h.1.trans rfl, h.2⟩
        go_wp2_with fail
        refine (hm).mono ?_
        rintro e w7 ⟨rfl, hb7⟩
        have hB := hB.trans (hb7.mono hB.size)
        go_wp2_with fail
        refine (HA.out _ hB).mono ?_
        rintro e w8 ⟨rfl, hb8⟩
        have hB := hB.trans (hb8.mono hB.size)
        go_wp2
        go_ret
        exact ⟨rfl, hB⟩
    · have hm : Calls Tryd.prog 10 #[.agg #[.bool false, .string (mk (patL A1 E1)), .string (mk (patL A2 E2))], .string (mk F1)] _ fun e w'' => e = .returned (.tuple #[.string (mk F2), .bool true]) ∧ Below _ _ w'' := (HM1.out _ hB).mono fun _ _ h => ⟨h.1.trans rfl, h.2⟩
      go_wp2_with fail
      refine (hm).mono ?_
      rintro e w5 ⟨rfl, hb5⟩
      have hB := hB.trans (hb5.mono hB.size)
      have hQ2 := hQ2.below hb5 hQ2.blk
      clear hb5 l0 l1 l2
      obtain ⟨l0, l1, l2⟩ := cel3 hQ2
      clear hm
      go_wp2_with fail
      refine (HV2.out _ hB).mono ?_
      rintro e w6 ⟨rfl, hb6⟩
      have hB := hB.trans (hb6.mono hB.size)
      have hQ2 := hQ2.below hb6 hQ2.blk
      clear hb6 l0 l1 l2
      obtain ⟨l0, l1, l2⟩ := cel3 hQ2
      cases V1
      · have hm : Calls Tryd.prog 10 #[.agg #[.bool true, .string (mk (patL A2 E2)), .string (mk (patL A1 E1))], .string (mk F2)] _ fun e w'' => e = .returned (.tuple #[.string ⟨#[]⟩, .bool false]) ∧ Below _ _ w'' := (HM2.out _ hB).mono fun _ _ h => ⟨h.1.trans rfl, h.2⟩
        go_wp2_with fail
        refine (hm).mono ?_
        rintro e w7 ⟨rfl, hb7⟩
        have hB := hB.trans (hb7.mono hB.size)
        go_wp2_with fail
        refine (HV1.out _ hB).mono ?_
        rintro e w8 ⟨rfl, hb8⟩
        have hB := hB.trans (hb8.mono hB.size)
        go_wp2_with fail
        refine (HA.out _ hB).mono ?_
        rintro e w9 ⟨rfl, hb9⟩
        have hB := hB.trans (hb9.mono hB.size)
        go_wp2
        go_ret
        exact ⟨rfl, hB⟩
      · have hm : Calls Tryd.prog 10 #[.agg #[.bool true, .string (mk (patL A2 E2)), .string (mk (patL A1 E1))], .string (mk F2)] _ fun e w'' => e = .returned (.tuple #[.string (mk F1), .bool true]) ∧ Below _ _ w'' := (HM2.out _ hB).mono fun _ _ h => ⟨h.1.trans rfl, h.2⟩
        go_wp2_with fail
        refine (hm).mono ?_
        rintro e w7 ⟨rfl, hb7⟩
        have hB := hB.trans (hb7.mono hB.size)
        go_wp2_with fail
        refine (HV1.out _ hB).mono ?_
        rintro e w8 ⟨rfl, hb8⟩
        have hB := hB.trans (hb8.mono hB.size)
        go_wp2_with fail
        refine (HA.out _ hB).mono ?_
        rintro e w9 ⟨rfl, hb9⟩
        have hB := hB.trans (hb9.mono hB.size)
        go_wp2
        go_ret
        exact ⟨rfl, hB⟩
end Go.Proofs.YtbaokenjkbabnaaDoor
