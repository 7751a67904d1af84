/- The walk of the law InflateBlocks. -/
import Derived.Test.YtoeipgbnjcgbjaaInfX
import Derived.Test.YtoeipgbnjcgbjaaInfQ
import Derived.Test.YtoeipgbnjcgbjaaRows2
namespace Go.Proofs.Ytoeipgbnjcgbjaa
open Go.RowKit
set_option linter.unusedVariables false

/-- A stored block, written by hand. -/
def headL (n : Nat) : List Int := [0, ((n % 256 : Nat) : Int), ((n / 256 : Nat) : Int), 255 - ((n % 256 : Nat) : Int), 255 - ((n / 256 : Nat) : Int)]
def blkL (xs : List Int) : List Int := headL xs.length ++ xs
def lastL : List Int := [1, 0, 0, 255, 255]
theorem rawB_copy (bs : List Int) (most : Nat) : ∀ (xs : List Int) (p : Nat) (out : List Int), p % 8 = 0 → (∀ j, j < xs.length → bs.getD (p / 8 + j) 0 = xs.getD j 0) → p + 8 * xs.length ≤ 8 * bs.length → out.length + xs.length ≤ most → rawB bs most xs.length p out = (0, p + 8 * xs.length, out ++ xs) := by
  intro xs
  induction xs with
  | nil => intro p out _ _ _ _; simp [rawB]
  | cons x xs ih =>
    intro p out h8 hx hl hm
    rw [List.length_cons] at hl hm
    rw [List.length_cons, rawB, if_neg (by omega), if_neg (by omega)]
    have h0 := hx 0 (by simp)
    rw [Nat.add_zero] at h0
    rw [h0]
    have hi := ih (p + 8) (out ++ [x]) (by omega) (fun j hj => by
      have h1 := hx (j + 1) (by simp; omega)
      rw [show (p + 8) / 8 + j = p / 8 + (j + 1) by omega, h1]
      simp) (by omega) (by rw [List.length_append]; simp; omega)
    have hg : (x :: xs).getD 0 0 = x := rfl
    rw [hg, hi, List.append_assoc]
    simp
    omega
theorem kind_at {bs : List Int} {k : Nat} {h : Int} (hk : bs.getD k 0 = h) (h01 : h = 0 ∨ h = 1) : takeN bs (8 * k) 1 = h ∧ takeN bs (8 * k + 1) 2 = 0 := by
  have e0 : bitAt bs (8 * k) = h % 2 := by unfold bitAt; rw [show 8 * k / 8 = k by omega, show 8 * k % 8 = 0 by omega, hk]; simp
  have e1 : bitAt bs (8 * k + 1) = h / 2 % 2 := by unfold bitAt; rw [show (8 * k + 1) / 8 = k by omega, show (8 * k + 1) % 8 = 1 by omega, hk]; rfl
  have e2 : bitAt bs (8 * k + 2) = h / 4 % 2 := by unfold bitAt; rw [show (8 * k + 2) / 8 = k by omega, show (8 * k + 2) % 8 = 2 by omega, hk]; rfl
  rw [takeN_one, e0]
  have : takeN bs (8 * k + 1) 2 = bitAt bs (8 * k + 1) + bitAt bs (8 * k + 1 + 1) * 2 := by simp [takeN]
  rw [this, e1, show 8 * k + 1 + 1 = 8 * k + 2 by omega, e2]
  omega
/-- One stored block. -/
theorem stored_at {bs : List Int} {most k : Nat} {out xs : List Int} (hn : xs.length ≤ 65535) (h1 : bs.getD (k + 1) 0 = ((xs.length % 256 : Nat) : Int)) (h2 : bs.getD (k + 2) 0 = ((xs.length / 256 : Nat) : Int)) (h3 : bs.getD (k + 3) 0 = 255 - ((xs.length % 256 : Nat) : Int)) (h4 : bs.getD (k + 4) 0 = 255 - ((xs.length / 256 : Nat) : Int))
    (hx : ∀ j, j < xs.length → bs.getD (k + 5 + j) 0 = xs.getD j 0) (hl : k + 5 + xs.length ≤ bs.length) (hm : out.length + xs.length ≤ most) : storedM bs most (8 * k + 3) out = (0, 8 * (k + 5 + xs.length), out ++ xs) := by
  have hu : upto8 (8 * k + 3) = 8 * k + 8 := by unfold upto8; omega
  unfold storedM
  rw [hu, show (8 * k + 8) / 8 = k + 1 by omega, show k + 1 + 1 = k + 2 by omega, show k + 1 + 2 = k + 3 by omega, show k + 1 + 3 = k + 4 by omega, h1, h2, h3, h4, if_neg (by omega), if_pos ⟨by omega, by omega⟩]
  rw [show (((xs.length % 256 : Nat) : Int) + 256 * ((xs.length / 256 : Nat) : Int)).toNat = xs.length by omega]
  rw [rawB_copy bs most xs (8 * k + 8 + 32) out (by omega) (fun j hj => by rw [show (8 * k + 8 + 32) / 8 + j = k + 5 + j by omega]; exact hx j hj) (by omega) hm]
  rw [show 8 * k + 8 + 32 + 8 * xs.length = 8 * (k + 5 + xs.length) by omega]
theorem getD_mid (pre l rest : List Int) (j : Nat) (h : j < l.length) : (pre ++ (l ++ rest)).getD (pre.length + j) 0 = l.getD j 0 := by
  rw [List.getD_eq_getElem?_getD, List.getD_eq_getElem?_getD, List.getElem?_append_right (by omega), List.getElem?_append_left (by omega), Nat.add_sub_cancel_left]
theorem blocks_raw (F most : Nat) (more : List Int) : ∀ (ls : List (List Int)) (pre out : List Int) (f : Nat), (∀ x ∈ ls, x.length ≤ 65535) → ls.length < f → out.length + ls.flatten.length ≤ most →
    rawM F (pre ++ (ls.flatMap blkL ++ (lastL ++ more))) most f (8 * pre.length) out = (0, 8 * (pre.length + (ls.flatMap blkL).length + 5), out ++ ls.flatten) := by
  intro ls
  induction ls with
  | nil =>
    intro pre out f _ hf hm
    obtain ⟨f', rfl⟩ : ∃ f', f = f' + 1 := ⟨f - 1, by simp at hf; omega⟩
    generalize hbs : pre ++ (([] : List (List Int)).flatMap blkL ++ (lastL ++ more)) = bs
    have hg : ∀ j, j < 5 → bs.getD (pre.length + j) 0 = lastL.getD j 0 := fun j hj => by rw [← hbs]; exact getD_mid pre lastL more j hj
    have hl : pre.length + 5 ≤ bs.length := by rw [← hbs]; simp [lastL]
    have hk := kind_at (hg 0 (by decide)) (.inr rfl)
    rw [Nat.add_zero] at hk
    have hs := stored_at (bs := bs) (most := most) (k := pre.length) (out := out) (xs := []) (by simp) (hg 1 (by decide)) (hg 2 (by decide)) (hg 3 (by decide)) (hg 4 (by decide)) (fun j hj => by simp at hj) (by simpa using hl) (by simp at hm ⊢; omega)
    have hb : blockM F bs most 0 (8 * pre.length + 3) out = (0, 8 * (pre.length + 5), out) := by
      unfold blockM
      rw [if_pos rfl, hs]
      simp
    rw [rawM, if_neg (by omega), hk.2, if_neg (by decide), hb, if_neg (fun h => h rfl), hk.1, if_pos (by rfl)]
    simp
  | cons x ls ih =>
    intro pre out f hx hf hm
    obtain ⟨f', rfl⟩ : ∃ f', f = f' + 1 := ⟨f - 1, by simp at hf; omega⟩
    have hxl := hx x (by simp)
    have hbs : pre ++ ((x :: ls).flatMap blkL ++ (lastL ++ more)) = (pre ++ blkL x) ++ (ls.flatMap blkL ++ (lastL ++ more)) := by simp [List.flatMap_cons]
    have hbl : (blkL x).length = x.length + 5 := by simp [blkL, headL]
    rw [List.flatten_cons, List.length_append] at hm
    have hi := ih (pre ++ blkL x) (out ++ x) f' (fun y hy => hx y (by simp [hy])) (by simp at hf; omega) (by rw [List.length_append]; omega)
    rw [← hbs] at hi
    have hg : ∀ j, j < (blkL x).length → (pre ++ ((x :: ls).flatMap blkL ++ (lastL ++ more))).getD (pre.length + j) 0 = (blkL x).getD j 0 := fun j hj => by
      rw [hbs, List.append_assoc]
      exact getD_mid pre (blkL x) _ j hj
    have hl : pre.length + (blkL x).length ≤ (pre ++ ((x :: ls).flatMap blkL ++ (lastL ++ more))).length := by rw [hbs]; simp
    generalize pre ++ ((x :: ls).flatMap blkL ++ (lastL ++ more)) = bs at *
    have hk := kind_at (h := 0) (hg 0 (by omega)) (.inl rfl)
    rw [Nat.add_zero] at hk
    have hs := stored_at (bs := bs) (most := most) (k := pre.length) (out := out) (xs := x) hxl (hg 1 (by omega)) (hg 2 (by omega)) (hg 3 (by omega)) (hg 4 (by omega)) (fun j hj => by
      rw [Nat.add_assoc, hg (5 + j) (by omega)]
      unfold blkL
      rw [List.getD_eq_getElem?_getD, List.getD_eq_getElem?_getD, List.getElem?_append_right (by simp [headL]), show 5 + j - (headL x.length).length = j by simp [headL]]) (by omega) (by omega)
    have hb : blockM F bs most 0 (8 * pre.length + 3) out = (0, 8 * (pre.length + 5 + x.length), out ++ x) := by
      unfold blockM
      rw [if_pos rfl, hs]
    rw [rawM, if_neg (by omega), hk.2, if_neg (by decide), hb, if_neg (fun h => h rfl), hk.1, if_neg (by decide)]
    simp only
    rw [show 8 * (pre.length + 5 + x.length) = 8 * (pre ++ blkL x).length by rw [List.length_append, hbl]; omega, hi]
    rw [List.flatMap_cons, List.length_append, List.length_append, hbl, List.append_assoc, List.flatten_cons]
    congr 2
    omega
theorem blocks_inf (F : Nat) (ls : List (List Int)) (more : List Int) (hx : ∀ x ∈ ls, x.length ≤ 65535) (hf : ls.length < F) : infM F (ls.flatMap blkL ++ (lastL ++ more)) ls.flatten.length = (0, (ls.flatMap blkL ++ lastL).length, ls.flatten) := by
  have h := blocks_raw F ls.flatten.length more ls [] [] F hx hf (by simp)
  simp only [List.nil_append, List.length_nil, Nat.mul_zero] at h
  unfold infM
  rw [h, if_neg (fun h => h rfl), List.length_append]
  simp [lastL]
  omega
theorem OwnS.none_new6 {w : World} {base : Nat} {e : TypeId} (hb : base ≤ w.heap.size) : OwnS (w.alloc (.cells #[] e)) base e 1 (.slice (some ⟨w.heap.size, 0, none⟩) 0 0) 0 [] := by
  exact ⟨rfl, .inr ⟨w.heap.size, 0, 0, #[], rfl, hb, ⟨(0, 0), heap_alloc_new w _, .inl (Nat.le_refl _)⟩, Nat.le_refl _, Nat.zero_le _, Nat.le_refl _, rfl⟩⟩
/-- The law's two rows, one behind the other. -/
structure TwoAt (w : World) (v5 v6 : Value) (bl wl : List Int) (w' : World) : Prop where
  own5 : OwnS w' w.heap.size 5 1 v5 bl.length (bl.map (Value.int .u8))
  own6 : OwnS w' w.heap.size 5 1 v6 wl.length (wl.map (Value.int .u8))
  sep : v5.ownBlock = none ∨ v5.ownBlock ≠ v6.ownBlock
  bel : Below w.heap.size w w'
section
variable {w w' w9 : World} {v5 v6 v9 : Value} {bl wl l : List Int} {n : Nat}
theorem TwoAt.grow5 (h : TwoAt w v5 v6 bl wl w') (o : Obj) (hg : (w'.alloc o).grownBy w9 v5.ownBlock) (ho : OwnS w9 w.heap.size 5 1 v9 n (bl.map (Value.int .u8) ++ l.map (Value.int .u8))) (hn : n = bl.length + l.length) (hw : v9.ownBlock = v5.ownBlock ∨ v9.ownBlock = some (w'.alloc o).heap.size) : TwoAt w v9 v6 (bl ++ l) wl w9 := by
  subst hn
  have hs := h.bel.size
  refine ⟨by rw [List.length_append, List.map_append]; exact ho, (h.own6.alloc o).kept hg ?_, ?_, (h.bel.alloc hs o).grown hg (by simp; omega) (fun k hk => (h.own5.lt k hk).1)⟩
  · cases e : v6.ownBlock with
    | none => exact .inl rfl
    | some k => rcases h.sep with h' | h'
                · rw [h']; exact .inr (by simp)
                · rw [e] at h'; exact .inr (fun e' => h' e'.symm)
  · rcases hw with hw | hw
    · rw [hw]; exact h.sep
    · rw [hw]
      refine .inr fun e => ?_
      have := (h.own6.lt _ e.symm).2
      simp at this
      omega
theorem TwoAt.grow5' (h : TwoAt w v5 v6 bl wl w') (hg : w'.grownBy w9 v5.ownBlock) (ho : OwnS w9 w.heap.size 5 1 v9 n (bl.map (Value.int .u8) ++ l.map (Value.int .u8))) (hn : n = bl.length + l.length) (hw : v9.ownBlock = v5.ownBlock ∨ v9.ownBlock = some w'.heap.size) : TwoAt w v9 v6 (bl ++ l) wl w9 := by
  subst hn
  have hs := h.bel.size
  refine ⟨by rw [List.length_append, List.map_append]; exact ho, h.own6.kept hg ?_, ?_, h.bel.grown hg hs (fun k hk => (h.own5.lt k hk).1)⟩
  · cases e : v6.ownBlock with
    | none => exact .inl rfl
    | some k => rcases h.sep with h' | h'
                · rw [h']; exact .inr (by simp)
                · rw [e] at h'; exact .inr (fun e' => h' e'.symm)
  · rcases hw with hw | hw
    · rw [hw]; exact h.sep
    · rw [hw]
      refine .inr fun e => ?_
      have := (h.own6.lt _ e.symm).2
      simp at this
theorem TwoAt.swap (h : TwoAt w v5 v6 bl wl w') : TwoAt w v6 v5 wl bl w' := ⟨h.own6, h.own5, by
  rcases h.sep with h' | h'
  · cases e : v6.ownBlock with
    | none => exact .inl rfl
    | some k => rw [h']; exact .inr (by simp)
  · exact .inr fun e => h' e.symm, h.bel⟩
end
def BlkRel (w : World) (xss : List (List Int)) (k : Nat) (v5 v6 : Value) (w' : World) : Prop :=
  k ≤ xss.length ∧ k ≤ 10 ∧ ((xss.take k).flatMap blkL).length ≤ 1005 * k ∧ (xss.take k).flatten.length ≤ 1000 * k ∧ (∀ x ∈ xss.take k, x.length ≤ 1000) ∧ TwoAt w v5 v6 ((xss.take k).flatMap blkL) (xss.take k).flatten w'
set_option maxRecDepth 100000 in
theorem shr8 (n : Nat) (h : n ≤ 1000) : IntKind.u8.wrap ((n : Int) / 256) = ((n / 256 : Nat) : Int) := by rw [IntKind.wrap_u8']; omega
theorem low8 (n : Nat) : IntKind.u8.wrap (n : Int) = ((n % 256 : Nat) : Int) := by rw [IntKind.wrap_u8']; omega
theorem iRawM (A : Option Addr) (c F n : Nat) (bs : List Int) (most : Nat) (w : World) (hI : Ints .u8 w A bs) (hb : Bytes bs) (hl : bs.length = n) (hsz : n ≤ 2000000) (hmm : most ≤ 20000) (hF : F = 20000000) :
    Calls Try.prog 43 #[.slice A n c, .int .i64 most] w (RawPost bs most (infM F bs most) w) := by
  subst hl
  exact iRaw_any A c F bs most most w hI hb (by omega) (by omega) (by omega) (by omega) (by omega)
set_option maxRecDepth 100000 in
set_option maxHeartbeats 8000000 in
theorem inflateBlocks_walk (A : Option Addr) (c : Nat) (xss : List (List Int)) (A1 : Option Addr) (c1 : Nat) (more : List Int) (w : World) (hR : RowsI .u8 w A xss) (wf : ∀ ys ∈ xss, ∀ x ∈ ys, (Lit.int .u8 x).wf = true) (hsz : xss.flatten.length + xss.length ≤ 1048576)
    (hI : Ints .u8 w A1 more) (wf1 : ∀ x ∈ more, (Lit.int .u8 x).wf = true) (hsz1 : more.length ≤ 1048576) :
    Calls Try.prog 11 #[.slice A xss.length c, .slice A1 more.length c1] w fun e w' => e = .returned (.bool true) ∧ Below w.heap.size w w' := by
  have byw : ∀ x : Int, (Lit.int .u8 x).wf = true → 0 ≤ x ∧ x < 256 := fun x this => by
    simp [Lit.wf, IntKind.min, IntKind.max, IntKind.bits, IntKind.signed] at this
    omega
  have HWF : Hid (∀ ys ∈ xss, ∀ x ∈ ys, 0 ≤ x ∧ x < 256) := Lib.hid fun ys hy x hx => byw x (wf ys hy x hx)
  have HWM : Hid (Bytes more) := Lib.hid fun x hx => byw x (wf1 x hx)
  clear wf wf1 byw
  obtain ⟨F, hF⟩ : ∃ F, F = 20000000 := ⟨_, rfl⟩
  have HF := Lib.hid hF
  clear hF
  have HR0 : Hid (BlkRel w xss 0 (.slice none 0 0) (.slice none 0 0) w) := Lib.hid ⟨Nat.zero_le _, by decide, by simp, by simp, by simp, OwnS.nil _ _ _ _, OwnS.nil _ _ _ _, .inl rfl, Below.refl _ _⟩
  have HI := Lib.hid hI
  clear hI
  obtain ⟨i0, hi, hz0, hz1, hz2⟩ := info_parts Try.info_u8
  go_enter Try.func11, Try.ntmps11
  go_wp2
  go_loopw [5, 6, 7] (fun v5 v6 i wr => ∃ k : Nat, i = .int .i64 k ∧ BlkRel w xss k v5 v6 wr) (fun _ _ i _ => 10 - (intOf i).toNat)
  case atStart => exact ⟨0, rfl, HR0.out⟩
  case round =>
    clear HR0
    obtain ⟨k, rfl, hk, hk10, hb1, hw1, hsm, hT⟩ := hrel
    have HT := Lib.hid hT
    have HSM := Lib.hid hsm
    obtain ⟨A5, c5, hv5⟩ := hT.own5.shape
    obtain ⟨A6, c6, hv6⟩ := hT.own6.shape
    subst hv5 hv6
    clear hT hsm
    have hwr := HT.out.bel.size
    by_cases hlt : k < xss.length
    · have d1 : decide ((k : Int) < (xss.length : Int)) = true := decide_eq_true (by omega)
      by_cases h10 : k < 10
      · have d2 : decide ((k : Int) < 10) = true := decide_eq_true (by omega)
        obtain ⟨rb, ro, rfl, hrb, hrow⟩ := hR (by omega)
        obtain ⟨Aj, cj, hcj, hij⟩ := hrow k hlt
        have HX : Hid (xss.take (k + 1) = xss.take k ++ [xss.getD k []]) := Lib.hid (by rw [List.take_succ_eq_append_getElem hlt]; simp [List.getD_eq_getElem?_getD, List.getElem?_eq_getElem hlt])
        have hmem : xss.getD k [] ∈ xss := by rw [List.getD_eq_getElem?_getD, List.getElem?_eq_getElem hlt]; exact List.getElem_mem hlt
        have HBX := Lib.hid (HWF.out _ hmem)
        have HIJ := Lib.hid hij
        have HCJ := Lib.hid hcj
        have k1 : wr.cell? ⟨rb, ro + k, none⟩ = _ := (HT.out.bel.cell (p := ⟨rb, ro + k, none⟩) hrb).trans hcj
        clear hrow hij hcj hmem
        generalize xss.getD k [] = x at *
        obtain ⟨n, hn⟩ : ∃ n, x.length = n := ⟨_, rfl⟩
        rw [hn] at k1 HCJ
        by_cases hbig : 1000 < n
        · have d3 : decide ((1000 : Int) < (n : Int)) = true := decide_eq_true (by omega)
          have HAW := Lib.hid (awake6_any wr)
          have HBL := Lib.hid HT.out.bel
          clear hn
          go_wp2_with fail
          refine HAW.out.mono ?_
          rintro e w2 ⟨rfl, hB2⟩
          have HB2 := Lib.hid (HBL.out.trans (hB2.mono hwr))
          clear hB2 HAW
          go_wp2
          go_ret
          exact ⟨rfl, HB2.out⟩
        · have d3 : decide ((1000 : Int) < (n : Int)) = false := decide_eq_false (by omega)
          have g1 := low8 n
          have g2 := shr8 n (by omega)
          have g3 := not8 ((n % 256 : Nat) : Int) (by omega)
          have g4 := not8 ((n / 256 : Nat) : Int) (by omega)
          have HN := Lib.hid hn
          have hn10 : n ≤ 1000 := by omega
          clear hn
          have HH : Hid (headL n = [0, ((n % 256 : Nat) : Int), ((n / 256 : Nat) : Int), 255 - ((n % 256 : Nat) : Int), 255 - ((n / 256 : Nat) : Int)]) := Lib.hid rfl
          have HLH : Hid ((headL n).length = 5) := Lib.hid rfl
          generalize ((n % 256 : Nat) : Int) = y0 at *
          generalize ((n / 256 : Nat) : Int) = y1 at *
          have hnn : (0 : Int) ≤ (n : Int) := by omega
          generalize hbl : (xss.take k).flatMap blkL = bl at *
          generalize hwl : (xss.take k).flatten = wl at *
          have HBL := Lib.hid hbl
          have HWL := Lib.hid hwl
          clear hbl hwl
          have HO5 := Lib.hid (HT.out.own5.alloc (.cells #[.int .u8 0, .int .u8 y0, .int .u8 y1, .int .u8 (255 - y0), .int .u8 (255 - y1)] 5))
          have hsa : w.heap.size ≤ (wr.alloc (.cells #[.int .u8 0, .int .u8 y0, .int .u8 y1, .int .u8 (255 - y0), .int .u8 (255 - y1)] 5)).heap.size := by simp; omega
          go_wp2_with (first
            | (at_builtin; have hm8 := HS8.out; refine wpList_append_S rfl (.tmp 55) (.tmp 59) 22 22 rfl i0 (.int .u8 0) 1 (.slice 5) Try.underlying22 Try.underlying22 (fun _ h => by cases h) hi hz0 hz1 hz2 rfl rfl rfl HT8.out.own5 (by have := Src.ints (P := Try.prog) (c := cj) HJ8.out; rwa [HN.out] at this) (by unfold maxLen; omega) (by omega) (by omega) ?_; intro A9 c9 w9 ho9 hg9 hw9; have HT9 := Lib.hid ((HT8.out.grow5' (l := x) hg9 ho9 (by rw [HN.out]) hw9).swap); clear ho9 hg9 hw9)
            | (at_builtin; have hm7 := HS7.out; refine wpList_append_S rfl (.tmp 49) (.tmp 53) 22 22 rfl i0 (.int .u8 0) 1 (.slice 5) Try.underlying22 Try.underlying22 (fun _ h => by cases h) hi hz0 hz1 hz2 rfl rfl rfl (by have := HT7.out.own5; rwa [List.length_append, HLH.out] at this) (by have := Src.ints (P := Try.prog) (c := cj) HJ7.out; rwa [HN.out] at this) (by unfold maxLen; omega) (by omega) (by omega) ?_; intro A8 c8 w8 ho8 hg8 hw8; have HT8 := Lib.hid ((HT7.out.grow5' (l := x) hg8 ho8 (by rw [HN.out, List.length_append, HLH.out]) hw8).swap); have k8 := (HT8.out.bel.cell (p := ⟨rb, ro + k, none⟩) hrb).trans HCJ.out; have HS8 := Lib.hid HT8.out.bel.size; have HJ8 := Lib.hid (HIJ.out.below HT8.out.bel); clear ho8 hg8 hw8)
            | (at_builtin; refine wpList_append_S rfl (.tmp 34) (.tmp 47) 22 22 rfl i0 (.int .u8 0) 1 (.slice 5) Try.underlying22 Try.underlying22 (fun _ h => by cases h) hi hz0 hz1 hz2 rfl rfl rfl HO5.out (Src.new (us := [.int .u8 0, .int .u8 y0, .int .u8 y1, .int .u8 (255 - y0), .int .u8 (255 - y1)]) rfl (by simp [Value.oneCell'])) (by unfold maxLen; simp; omega) (by simp; omega) hsa ?_; intro A7 c7 w7 ho7 hg7 hw7; have HT7 := Lib.hid (HT.out.grow5 (l := headL n) _ hg7 (by rw [HH.out]; exact ho7) (by rw [HH.out]; rfl) hw7); have k7 := (HT7.out.bel.cell (p := ⟨rb, ro + k, none⟩) hrb).trans HCJ.out; have HS7 := Lib.hid HT7.out.bel.size; have HJ7 := Lib.hid (HIJ.out.below HT7.out.bel); clear ho7 hg7 hw7))
          all_goals
            go_roundw
            case rel =>
              refine ⟨k + 1, by go_num, by omega, by omega, ?_, ?_, ?_, ?_⟩
              · rw [HX.out, List.flatMap_append, HBL.out, List.length_append]; simp [blkL, headL, HN.out]; omega
              · rw [HX.out, List.flatten_append, HWL.out, List.length_append]; simp [HN.out]; omega
              · intro z hz
                rw [HX.out] at hz
                rcases List.mem_append.1 hz with hz | hz
                · exact HSM.out z hz
                · simp at hz; subst hz; rw [HN.out]; exact hn10
              · rw [HX.out, List.flatMap_append, List.flatten_append, HBL.out, HWL.out]
                have e1 : [x].flatMap blkL = headL n ++ x := by simp [blkL, HN.out]
                have e2 : [x].flatten = x := by simp
                rw [e1, e2, ← List.append_assoc]
                exact HT9.out
            case measure => simp [intOf]; omega
      · have d2 : decide ((k : Int) < 10) = false := decide_eq_false (by omega)
        have hls : ∀ x ∈ xss.take k, x.length ≤ 65535 := fun x hx => by have := HSM.out x hx; omega
        have HBI := Lib.hid (blocks_inf F (xss.take k) more hls (by rw [List.length_take]; have := HF.out; omega))
        have hbb : Bytes ((xss.take k).flatMap blkL) := by
          intro x hx
          obtain ⟨ys, hy, hx⟩ := List.mem_flatMap.1 hx
          have hyl := HSM.out ys hy
          unfold blkL headL at hx
          rcases List.mem_append.1 hx with hx | hx
          · simp at hx; omega
          · exact HWF.out ys (List.mem_of_mem_take hy) x hx
        have HBB := Lib.hid hbb
        clear hls hbb
        generalize (xss.take k).flatMap blkL = bl at *
        generalize (xss.take k).flatten = wl at *
        have HO5 := Lib.hid (HT.out.own5.alloc (.cells #[.int .u8 1, .int .u8 0, .int .u8 0, .int .u8 255, .int .u8 255] 5))
        have hsa : w.heap.size ≤ (wr.alloc (.cells #[.int .u8 1, .int .u8 0, .int .u8 0, .int .u8 255, .int .u8 255] 5)).heap.size := by simp; omega
        go_wp2_with (first
          | (at_builtin; have hs8 := HS8.out; refine wpList_append_S rfl (.tmp 67) (.tmp 68) 22 22 rfl i0 (.int .u8 0) 1 (.slice 5) Try.underlying22 Try.underlying22 (fun _ h => by cases h) hi hz0 hz1 hz2 rfl rfl rfl HO8.out HSM8.out (by unfold maxLen; omega) (by omega) hs8 ?_; intro A9 c9 w9 ho9 hg9 hw9; have HO9 := Lib.hid ho9; have HB9 := Lib.hid (HB8.out.grown hg9 hs8 (fun k hk => (HO8.out.lt k hk).1)); clear ho9 hg9 hw9)
          | (at_builtin; have hon := HON.out; refine wpList_append_S rfl (.tmp 65) (.tmp 66) 22 22 rfl i0 (.int .u8 0) 1 (.slice 5) Try.underlying22 Try.underlying22 (fun _ h => by cases h) hi hz0 hz1 hz2 rfl rfl rfl hon HSR.out (by unfold maxLen; omega) (by omega) (by simp) ?_; intro A8 c8 w8 ho8 hg8 hw8; have HB8 := Lib.hid (hB8.grown hg8 (by simp) (fun k hk => by have h' : some w7.heap.size = some k := hk; injection h' with h'; omega)); have HO8 := Lib.hid (by have := ho8; rwa [List.nil_append, Nat.zero_add] at this : OwnS w8 w7.heap.size 5 1 (.slice A8 (bl.length + 5) c8) (bl.length + 5) ((bl ++ lastL).map (Value.int .u8))); have HSM8 := Lib.hid (Src.ints (P := Try.prog) (c := c1) ((HI.out.below HT7.out.bel).below HB8.out)); have HS8 := Lib.hid HB8.out.size; clear ho8 hg8 hw8)
          | (at_builtin; refine wpList_append_S rfl (.tmp 61) (.tmp 62) 22 22 rfl i0 (.int .u8 0) 1 (.slice 5) Try.underlying22 Try.underlying22 (fun _ h => by cases h) hi hz0 hz1 hz2 rfl rfl rfl HO5.out (Src.new (us := [.int .u8 1, .int .u8 0, .int .u8 0, .int .u8 255, .int .u8 255]) rfl (by simp [Value.oneCell'])) (by unfold maxLen; simp; omega) (by simp; omega) hsa ?_; intro A7 c7 w7 ho7 hg7 hw7; have HT7 := Lib.hid (HT.out.grow5 (l := lastL) _ hg7 ho7 rfl hw7); have hO7 : OwnS w7 w.heap.size 5 1 (.slice A7 (bl.length + 5) c7) (bl.length + 5) ((bl ++ lastL).map (Value.int .u8)) := (by have := HT7.out.own5; rwa [show (bl ++ lastL).length = bl.length + 5 by simp [lastL]] at this); have hB8 := (Below.refl w7.heap.size w7).alloc (Nat.le_refl _) (.cells #[] 5); have HON := Lib.hid (OwnS.none_new6 (w := w7) (e := 5) (Nat.le_refl _)); have HSR := Lib.hid (by have := Src.ints (P := Try.prog) (c := c7) ((OwnS.ints hO7).below hB8); rwa [show (bl ++ lastL).length = bl.length + 5 by simp [lastL]] at this : Src Try.prog (w7.alloc (.cells #[] 5)) 1 (.slice A7 (bl.length + 5) c7) (bl.length + 5) ((bl ++ lastL).map (Value.int .u8))); clear ho7 hg7 hw7))
        all_goals
          have hI9 : Ints .u8 w9 A9 (bl ++ (lastL ++ more)) := OwnS.ints (by have := HO9.out; rw [← List.map_append, List.append_assoc] at this; exact this : OwnS w9 w7.heap.size 5 1 (.slice A9 (bl.length + 5 + more.length) c9) (bl.length + 5 + more.length) ((bl ++ (lastL ++ more)).map (Value.int .u8)))
          have HR := Lib.hid (iRawM A9 c9 F (bl.length + 5 + more.length) (bl ++ (lastL ++ more)) wl.length w9 hI9 (fun x hx => by
            rcases List.mem_append.1 hx with hx | hx
            · exact HBB.out x hx
            · rcases List.mem_append.1 hx with hx | hx
              · simp [lastL] at hx; omega
              · exact HWM.out x hx) (by simp [lastL]; omega) (by omega) (by omega) HF.out)
          rw [HBI.out, show (bl ++ lastL).length = bl.length + 5 by simp [lastL]] at HR
          clear hI9
          have HBW := Lib.hid (HT7.out.bel.trans (HB9.out.mono HT7.out.bel.size))
          have HW9 := Lib.hid ((OwnS.ints HT7.out.own6).below HB9.out)
          clear HO9 HB9 HBI HT7 hB8
          go_wp2_with fail
          refine HR.out.mono ?_
          rintro e w10 ⟨hB10, _, hgood⟩
          obtain ⟨⟨v10, rfl, ho10⟩, _, _, _⟩ := hgood rfl
          simp only at ho10
          obtain ⟨A10, c10, rfl⟩ := ho10.shape
          have HB10 := Lib.hid (HBW.out.trans (hB10.mono HBW.out.size))
          have HW10 := Lib.hid (HW9.out.below hB10)
          have hr1 : (convert 22 9 (.slice A10 wl.length c10)).run Try.prog w10 = .ok (.string (strOfNums wl)) w10 := run_str_ints 22 9 5 Try.underlying22 Try.underlying5 Try.underlying9 A10 c10 wl (OwnS.ints ho10)
          have hr2 : (convert 22 9 (.slice A6 wl.length c6)).run Try.prog w10 = .ok (.string (strOfNums wl)) w10 := run_str_ints 22 9 5 Try.underlying22 Try.underlying5 Try.underlying9 A6 c6 wl HW10.out
          have HAW := Lib.hid (awake6_any w10)
          clear hgood hB10 ho10 HR HBW HW9
          generalize strOfNums wl = SS at *
          go_wp2_with fail
          refine HAW.out.mono ?_
          rintro e w11 ⟨rfl, hB11⟩
          have HB11 := Lib.hid (HB10.out.trans (hB11.mono HB10.out.size))
          clear hB11 HAW
          go_wp2
          go_ret
          exact ⟨rfl, HB11.out⟩
    · have d1 : decide ((k : Int) < (xss.length : Int)) = false := decide_eq_false (by omega)
      have hls : ∀ x ∈ xss.take k, x.length ≤ 65535 := fun x hx => by have := HSM.out x hx; omega
      have HBI := Lib.hid (blocks_inf F (xss.take k) more hls (by rw [List.length_take]; have := HF.out; omega))
      have hbb : Bytes ((xss.take k).flatMap blkL) := by
        intro x hx
        obtain ⟨ys, hy, hx⟩ := List.mem_flatMap.1 hx
        have hyl := HSM.out ys hy
        unfold blkL headL at hx
        rcases List.mem_append.1 hx with hx | hx
        · simp at hx; omega
        · exact HWF.out ys (List.mem_of_mem_take hy) x hx
      have HBB := Lib.hid hbb
      clear hls hbb
      generalize (xss.take k).flatMap blkL = bl at *
      generalize (xss.take k).flatten = wl at *
      have HO5 := Lib.hid (HT.out.own5.alloc (.cells #[.int .u8 1, .int .u8 0, .int .u8 0, .int .u8 255, .int .u8 255] 5))
      have hsa : w.heap.size ≤ (wr.alloc (.cells #[.int .u8 1, .int .u8 0, .int .u8 0, .int .u8 255, .int .u8 255] 5)).heap.size := by simp; omega
      go_wp2_with (first
        | (at_builtin; have hs8 := HS8.out; refine wpList_append_S rfl (.tmp 67) (.tmp 68) 22 22 rfl i0 (.int .u8 0) 1 (.slice 5) Try.underlying22 Try.underlying22 (fun _ h => by cases h) hi hz0 hz1 hz2 rfl rfl rfl HO8.out HSM8.out (by unfold maxLen; omega) (by omega) hs8 ?_; intro A9 c9 w9 ho9 hg9 hw9; have HO9 := Lib.hid ho9; have HB9 := Lib.hid (HB8.out.grown hg9 hs8 (fun k hk => (HO8.out.lt k hk).1)); clear ho9 hg9 hw9)
        | (at_builtin; have hon := HON.out; refine wpList_append_S rfl (.tmp 65) (.tmp 66) 22 22 rfl i0 (.int .u8 0) 1 (.slice 5) Try.underlying22 Try.underlying22 (fun _ h => by cases h) hi hz0 hz1 hz2 rfl rfl rfl hon HSR.out (by unfold maxLen; omega) (by omega) (by simp) ?_; intro A8 c8 w8 ho8 hg8 hw8; have HB8 := Lib.hid (hB8.grown hg8 (by simp) (fun k hk => by have h' : some w7.heap.size = some k := hk; injection h' with h'; omega)); have HO8 := Lib.hid (by have := ho8; rwa [List.nil_append, Nat.zero_add] at this : OwnS w8 w7.heap.size 5 1 (.slice A8 (bl.length + 5) c8) (bl.length + 5) ((bl ++ lastL).map (Value.int .u8))); have HSM8 := Lib.hid (Src.ints (P := Try.prog) (c := c1) ((HI.out.below HT7.out.bel).below HB8.out)); have HS8 := Lib.hid HB8.out.size; clear ho8 hg8 hw8)
        | (at_builtin; refine wpList_append_S rfl (.tmp 61) (.tmp 62) 22 22 rfl i0 (.int .u8 0) 1 (.slice 5) Try.underlying22 Try.underlying22 (fun _ h => by cases h) hi hz0 hz1 hz2 rfl rfl rfl HO5.out (Src.new (us := [.int .u8 1, .int .u8 0, .int .u8 0, .int .u8 255, .int .u8 255]) rfl (by simp [Value.oneCell'])) (by unfold maxLen; simp; omega) (by simp; omega) hsa ?_; intro A7 c7 w7 ho7 hg7 hw7; have HT7 := Lib.hid (HT.out.grow5 (l := lastL) _ hg7 ho7 rfl hw7); have hO7 : OwnS w7 w.heap.size 5 1 (.slice A7 (bl.length + 5) c7) (bl.length + 5) ((bl ++ lastL).map (Value.int .u8)) := (by have := HT7.out.own5; rwa [show (bl ++ lastL).length = bl.length + 5 by simp [lastL]] at this); have hB8 := (Below.refl w7.heap.size w7).alloc (Nat.le_refl _) (.cells #[] 5); have HON := Lib.hid (OwnS.none_new6 (w := w7) (e := 5) (Nat.le_refl _)); have HSR := Lib.hid (by have := Src.ints (P := Try.prog) (c := c7) ((OwnS.ints hO7).below hB8); rwa [show (bl ++ lastL).length = bl.length + 5 by simp [lastL]] at this : Src Try.prog (w7.alloc (.cells #[] 5)) 1 (.slice A7 (bl.length + 5) c7) (bl.length + 5) ((bl ++ lastL).map (Value.int .u8))); clear ho7 hg7 hw7))
      all_goals
        have hI9 : Ints .u8 w9 A9 (bl ++ (lastL ++ more)) := OwnS.ints (by have := HO9.out; rw [← List.map_append, List.append_assoc] at this; exact this : OwnS w9 w7.heap.size 5 1 (.slice A9 (bl.length + 5 + more.length) c9) (bl.length + 5 + more.length) ((bl ++ (lastL ++ more)).map (Value.int .u8)))
        have HR := Lib.hid (iRawM A9 c9 F (bl.length + 5 + more.length) (bl ++ (lastL ++ more)) wl.length w9 hI9 (fun x hx => by
          rcases List.mem_append.1 hx with hx | hx
          · exact HBB.out x hx
          · rcases List.mem_append.1 hx with hx | hx
            · simp [lastL] at hx; omega
            · exact HWM.out x hx) (by simp [lastL]; omega) (by omega) (by omega) HF.out)
        rw [HBI.out, show (bl ++ lastL).length = bl.length + 5 by simp [lastL]] at HR
        clear hI9
        have HBW := Lib.hid (HT7.out.bel.trans (HB9.out.mono HT7.out.bel.size))
        have HW9 := Lib.hid ((OwnS.ints HT7.out.own6).below HB9.out)
        clear HO9 HB9 HBI HT7 hB8
        go_wp2_with fail
        refine HR.out.mono ?_
        rintro e w10 ⟨hB10, _, hgood⟩
        obtain ⟨⟨v10, rfl, ho10⟩, _, _, _⟩ := hgood rfl
        simp only at ho10
        obtain ⟨A10, c10, rfl⟩ := ho10.shape
        have HB10 := Lib.hid (HBW.out.trans (hB10.mono HBW.out.size))
        have HW10 := Lib.hid (HW9.out.below hB10)
        have hr1 : (convert 22 9 (.slice A10 wl.length c10)).run Try.prog w10 = .ok (.string (strOfNums wl)) w10 := run_str_ints 22 9 5 Try.underlying22 Try.underlying5 Try.underlying9 A10 c10 wl (OwnS.ints ho10)
        have hr2 : (convert 22 9 (.slice A6 wl.length c6)).run Try.prog w10 = .ok (.string (strOfNums wl)) w10 := run_str_ints 22 9 5 Try.underlying22 Try.underlying5 Try.underlying9 A6 c6 wl HW10.out
        have HAW := Lib.hid (awake6_any w10)
        clear hgood hB10 ho10 HR HBW HW9
        generalize strOfNums wl = SS at *
        go_wp2_with fail
        refine HAW.out.mono ?_
        rintro e w11 ⟨rfl, hB11⟩
        have HB11 := Lib.hid (HB10.out.trans (hB11.mono HB10.out.size))
        clear hB11 HAW
        go_wp2
        go_ret
        exact ⟨rfl, HB11.out⟩
end Go.Proofs.Ytoeipgbnjcgbjaa
