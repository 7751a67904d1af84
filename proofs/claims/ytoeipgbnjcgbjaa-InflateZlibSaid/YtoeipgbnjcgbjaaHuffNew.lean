/- huff.New: the code of lengths, as it lies in memory. -/
import Derived.Test.YtoeipgbnjcgbjaaHuffCodes
import Derived.Deep.AppendLies
import Derived.Deep.RegionLaw
import Derived.Deep.DeepCutAuto
namespace Go.Proofs.Ytoeipgbnjcgbjaa
open Go.RowKit

/-- The symbols of length l among the first k, in their order. -/
def symsAt (xs : List Int) : Nat → Nat → List Int
  | 0, _ => []
  | k + 1, l => if xs.getD k 0 = (l : Int) ∧ 0 < l then symsAt xs k l ++ [(k : Int)] else symsAt xs k l
/-- The first code of length l among the first k symbols. -/
def firstAt (xs : List Int) : Nat → Nat → Int
  | 0, _ => 0
  | k + 1, l => if xs.getD k 0 = (l : Int) ∧ 0 < l ∧ (symsAt xs k l).length = 0 then (codesL xs).getD k 0 else firstAt xs k l
def deepAt (xs : List Int) : Nat → Int
  | 0 => 0
  | k + 1 => if xs.getD k 0 = 0 then deepAt xs k else max (deepAt xs k) (xs.getD k 0)

/-- A code in memory, at block g; its rows lie from block B on. -/
structure CodeRep (B g : Nat) (w : World) (f : Nat → Int) (s : Nat → List Int) (d : Int) : Prop where
  lt : g < B
  body : ∃ (cs : Array Value) (vs : Nat → Value), w.heap[g]? = some (.cells cs 170 (0, 0)) ∧ cs.size = 33 ∧ (∀ i, i < 16 → cs[i]? = some (.int .u32 (f i))) ∧
    (∀ i, i < 16 → cs[16 + i]? = some (vs i) ∧ w.ownsRow B 3 1 (vs i) (s i).length ((s i).map (Value.int .i64))) ∧
    (∀ i j, i < 16 → j < 16 → i ≠ j → (vs i).ownBlock = none ∨ (vs i).ownBlock ≠ (vs j).ownBlock) ∧ cs[32]? = some (.int .i64 d)

section
variable {B g : Nat} {w w' : World} {f f' : Nat → Int} {s s' : Nat → List Int} {d d' : Int}
theorem CodeRep.congr (h : CodeRep B g w f s d) (hf : ∀ i, i < 16 → f i = f' i) (hs : ∀ i, i < 16 → s i = s' i) (hd : d = d') : CodeRep B g w f' s' d' := by
  obtain ⟨hl, cs, vs, h1, h2, h3, h4, h5, h6⟩ := h
  subst hd
  refine ⟨hl, cs, vs, h1, h2, fun i hi => ?_, fun i hi => ?_, h5, h6⟩
  · rw [← hf i hi]; exact h3 i hi
  · rw [← hs i hi]; exact h4 i hi
theorem CodeRep.alloc (h : CodeRep B g w f s d) (o : Obj) : CodeRep B g (w.alloc o) f s d := by
  obtain ⟨hl, cs, vs, h1, h2, h3, h4, h5, h6⟩ := h
  refine ⟨hl, cs, vs, ?_, h2, h3, fun i hi => ⟨(h4 i hi).1, (h4 i hi).2.alloc o⟩, h5, h6⟩
  exact (heap_alloc_old w o (Array.getElem?_eq_some_iff.1 h1).1).trans h1
theorem CodeRep.drew (h : CodeRep B g w f s d) : CodeRep B g w.drew f s d := ⟨h.1, h.2⟩
theorem CodeRep.blk (h : CodeRep B g w f s d) : g < w.heap.size := by
  obtain ⟨hl, cs, vs, h1, _⟩ := h
  exact (Array.getElem?_eq_some_iff.1 h1).1
theorem ownsRow_setCell_below' {e : TypeId} {size : Nat} {v : Value} {n : Nat} {xs : List Value} (h : w.ownsRow B e size v n xs) {a : Addr} (ha : a.block < B) (u : Value) : (w.setCell a u).ownsRow B e size v n xs := ownsRow_setCell_below h ha u
theorem heap_set (w : World) (g i : Nat) (cs : Array Value) (t : TypeId) (u : Value) (h : w.heap[g]? = some (.cells cs t (0, 0))) : (w.setCell ⟨g, i, none⟩ u).heap[g]? = some (.cells (cs.setIfInBounds i u) t (0, 0)) := by
  simp [World.setCell, Array.getElem?_modify, h]
theorem CodeRep.cellF (h : CodeRep B g w f s d) {i : Nat} (hi : i < 16) : w.cell? ⟨g, i, none⟩ = some (.int .u32 (f i)) := by
  obtain ⟨hl, cs, vs, h1, h2, h3, h4, h5, h6⟩ := h
  rw [cell_of_row w g i cs _ _ h1]; exact h3 i hi
theorem CodeRep.cellD (h : CodeRep B g w f s d) : w.cell? ⟨g, 32, none⟩ = some (.int .i64 d) := by
  obtain ⟨hl, cs, vs, h1, h2, h3, h4, h5, h6⟩ := h
  rw [cell_of_row w g 32 cs _ _ h1]; exact h6
theorem ownsRow_shape {e : TypeId} {size : Nat} {v : Value} {n : Nat} {xs : List Value} (h : w.ownsRow B e size v n xs) : ∃ A c, v = .slice A n c := by
  rcases h.2 with ⟨rfl, rfl⟩ | ⟨g, cap, cur, rfl, _⟩
  · exact ⟨_, _, rfl⟩
  · exact ⟨_, _, rfl⟩
theorem CodeRep.cellS (h : CodeRep B g w f s d) {i : Nat} (hi : i < 16) : ∃ A c, w.cell? ⟨g, 16 + i, none⟩ = some (.slice A (s i).length c) ∧ w.ownsRow B 3 1 (.slice A (s i).length c) (s i).length ((s i).map (Value.int .i64)) := by
  obtain ⟨hl, cs, vs, h1, h2, h3, h4, h5, h6⟩ := h
  obtain ⟨hv, ho⟩ := h4 i hi
  obtain ⟨A, c, he⟩ := ownsRow_shape ho
  refine ⟨A, c, ?_, by rw [← he]; exact ho⟩
  rw [cell_of_row w g _ cs _ _ h1, hv, he]
theorem CodeRep.frozen (h : CodeRep B g w f s d) (i : Nat) : w.frozen? ⟨g, i, none⟩ = false := by
  obtain ⟨hl, cs, vs, h1, _⟩ := h
  simp [World.frozen?, h1]
theorem CodeRep.setF (h : CodeRep B g w f s d) {m : Nat} (hm : m < 16) (v : Int) : CodeRep B g (w.setCell ⟨g, m, none⟩ (.int .u32 v)) (fun l => if l = m then v else f l) s d := by
  obtain ⟨hl, cs, vs, h1, h2, h3, h4, h5, h6⟩ := h
  refine ⟨hl, _, vs, heap_set w g m cs _ _ h1, by simpa using h2, fun i hi => ?_, fun i hi => ⟨?_, ownsRow_setCell_below (h4 i hi).2 (by exact hl) _⟩, h5, ?_⟩
  · by_cases e : i = m
    · subst e; simp [show i < cs.size by omega]
    · rw [Array.getElem?_setIfInBounds_ne (by omega), h3 i hi]; simp [e]
  · rw [Array.getElem?_setIfInBounds_ne (by omega)]; exact (h4 i hi).1
  · rw [Array.getElem?_setIfInBounds_ne (by omega)]; exact h6
theorem CodeRep.setD (h : CodeRep B g w f s d) (v : Int) : CodeRep B g (w.setCell ⟨g, 32, none⟩ (.int .i64 v)) f s v := by
  obtain ⟨hl, cs, vs, h1, h2, h3, h4, h5, h6⟩ := h
  refine ⟨hl, _, vs, heap_set w g 32 cs _ _ h1, by simpa using h2, fun i hi => ?_, fun i hi => ⟨?_, ownsRow_setCell_below (h4 i hi).2 (by exact hl) _⟩, h5, ?_⟩
  · rw [Array.getElem?_setIfInBounds_ne (by omega)]; exact h3 i hi
  · rw [Array.getElem?_setIfInBounds_ne (by omega)]; exact (h4 i hi).1
  · simp [show 32 < cs.size by omega]
theorem CodeRep.far (h : CodeRep B g w f s d) {row : Option Nat} (hg : w.grownBy w' row) (hr : row ≠ some g) (i : Nat) : w'.cell? ⟨g, i, none⟩ = w.cell? ⟨g, i, none⟩ ∧ w'.frozen? ⟨g, i, none⟩ = false :=
  ⟨hg.cell_far _ h.blk (Ne.symm hr), (hg.frozen_far ⟨g, i, none⟩ h.blk (Ne.symm hr)).trans (h.frozen i)⟩
theorem own_ne {e : TypeId} {size : Nat} {v : Value} {n : Nat} {xs : List Value} (h : w.ownsRow B e size v n xs) (hg : g < B) : v.ownBlock ≠ some g := fun h' => by have := h.lt g h'; omega
/-- Behind an append to the symbols of length m, and the store of what it gave. -/
theorem CodeRep.push (h : CodeRep B g w f s d) {m : Nat} (hm : m < 16) {A : Option Addr} {c : Nat} (hc : w.cell? ⟨g, 16 + m, none⟩ = some (.slice A (s m).length c)) {g' cap : Nat} (v : Int)
    (ho : w'.ownsRow B 3 1 (.slice (some ⟨g', 0, none⟩) ((s m).length + 1) cap) ((s m).length + 1) ((s m).map (Value.int .i64) ++ [.int .i64 v])) (hg : w.grownBy w' (Value.slice A (s m).length c).ownBlock)
    (hw : (Value.slice A (s m).length c).ownBlock = some g' ∨ w.heap.size ≤ g') : CodeRep B g (w'.setCell ⟨g, 16 + m, none⟩ (.slice (some ⟨g', 0, none⟩) ((s m).length + 1) cap)) f (fun l => if l = m then s m ++ [v] else s l) d := by
  obtain ⟨hl, cs, vs, h1, h2, h3, h4, h5, h6⟩ := h
  have e : vs m = .slice A (s m).length c := by
    have := (h4 m hm).1
    rw [cell_of_row w g _ cs _ _ h1, this] at hc
    exact Option.some.inj hc
  have hlt : ∀ i, i < 16 → ∀ k, (vs i).ownBlock = some k → B ≤ k ∧ k < w.heap.size := fun i hi k hk => (h4 i hi).2.lt k hk
  have hne : (Value.slice A (s m).length c).ownBlock ≠ some g := by
    intro h'; rw [← e] at h'; have := hlt m hm g h'; omega
  have h1' : w'.heap[g]? = some (.cells cs 170 (0, 0)) := (hg.block g (Array.getElem?_eq_some_iff.1 h1).1 (Ne.symm hne)).trans h1
  refine ⟨hl, _, fun i => if i = m then .slice (some ⟨g', 0, none⟩) ((s m).length + 1) cap else vs i, heap_set w' g (16 + m) cs _ _ h1', by simpa using h2, fun i hi => ?_, fun i hi => ?_, fun i j hi hj hij => ?_, ?_⟩
  · rw [Array.getElem?_setIfInBounds_ne (by omega)]; exact h3 i hi
  · by_cases ei : i = m
    · subst ei
      refine ⟨by simp [show 16 + i < cs.size by omega], ?_⟩
      have := ownsRow_setCell_below ho (a := ⟨g, 16 + i, none⟩) hl (.slice (some ⟨g', 0, none⟩) ((s i).length + 1) cap)
      simpa using this
    · refine ⟨by rw [Array.getElem?_setIfInBounds_ne (by omega)]; simp only [ei, if_false]; exact (h4 i hi).1, ?_⟩
      have hk : w'.ownsRow B 3 1 (vs i) (s i).length ((s i).map (Value.int .i64)) := (h4 i hi).2.kept hg (by rw [← e]; exact h5 i m hi hm ei)
      have := ownsRow_setCell_below hk (a := ⟨g, 16 + m, none⟩) hl (.slice (some ⟨g', 0, none⟩) ((s m).length + 1) cap)
      simpa [ei] using this
  · have key : ∀ q, q < 16 → q ≠ m → (vs q).ownBlock = none ∨ (vs q).ownBlock ≠ some g' := by
      intro q hq hqm
      rcases hw with hw | hw
      · rw [← hw, ← e]; exact h5 q m hq hm hqm
      · cases hv : (vs q).ownBlock with
        | none => exact .inl rfl
        | some k => right; intro h'; injection h' with h'; have := hlt q hq k hv; omega
    by_cases ei : i = m
    · by_cases ej : j = m
      · omega
      · simp only [ei, ej, if_true, if_false]
        right
        rcases key j hj ej with h' | h'
        · rw [h']; simp [Value.ownBlock]
        · intro h''; exact h' (h''.symm.trans (by simp [Value.ownBlock]))
    · by_cases ej : j = m
      · simp only [ei, ej, if_true, if_false]
        rcases key i hi ei with h' | h'
        · exact .inl h'
        · right; simpa [Value.ownBlock] using h'
      · simp only [ei, ej, if_false]; exact h5 i j hi hj hij
  · rw [Array.getElem?_setIfInBounds_ne (by omega)]; exact h6
end

theorem Try.info_int : (Try.prog.info? 3).map (fun i => (i.zero, i.size, i.bytes)) = some (some (.int .i64 0), 1, 8) := by kernel_rfl

theorem huffNew_bad (A : Option Addr) (c : Nat) (xs : List Int) (w : World) (h : Ints .i64 w A xs) (hn : xs.length ≤ 140737488351232) (hb : cntB xs = false ∨ 400 < xs.length) :
    Calls Try.prog 106 #[.slice A xs.length c] w fun e w' => e = .returned (.tuple #[.pointer none, .int .i64 1]) ∧ w = w' := by
  go_enter Try.func106, Try.ntmps106
  go_wp2_with (go_at_call 120; refine (codes_bad A c xs w h hn hb).mono ?_; rintro e w' ⟨rfl, rfl⟩)
  go_ret2
  exact ⟨rfl, rfl⟩
set_option maxRecDepth 100000 in
theorem huffNew_form (A : Option Addr) (c : Nat) (xs : List Int) (w : World) (h : Ints .i64 w A xs) (hb : cntB xs = true) (hn : xs.length ≤ 400) (hc : 32768 < cntN xs) :
    Calls Try.prog 106 #[.slice A xs.length c] w fun e w' => e = .returned (.tuple #[.pointer none, .int .i64 3]) ∧ w = w' := by
  go_enter Try.func106, Try.ntmps106
  go_wp2_with (go_at_call 120; refine (codes_form A c xs w h hb hn hc).mono ?_; rintro e w' ⟨rfl, rfl⟩)
  go_ret2
  exact ⟨rfl, rfl⟩


theorem symsAt_len (xs : List Int) (k l : Nat) : (symsAt xs k l).length ≤ k := by
  induction k with
  | zero => simp [symsAt]
  | succ k ih => rw [symsAt]; split <;> (try simp) <;> omega
theorem newCells_rep (w : World) : CodeRep (w.heap.size + 1) w.heap.size (w.alloc (.cells #[.int .u32 0, .int .u32 0, .int .u32 0, .int .u32 0, .int .u32 0, .int .u32 0, .int .u32 0, .int .u32 0, .int .u32 0, .int .u32 0, .int .u32 0, .int .u32 0, .int .u32 0, .int .u32 0, .int .u32 0, .int .u32 0, .slice none 0 0, .slice none 0 0, .slice none 0 0, .slice none 0 0, .slice none 0 0, .slice none 0 0, .slice none 0 0, .slice none 0 0, .slice none 0 0, .slice none 0 0, .slice none 0 0, .slice none 0 0, .slice none 0 0, .slice none 0 0, .slice none 0 0, .slice none 0 0, .int .i64 0] 170)) (fun _ => 0) (fun _ => []) 0 := by
  refine ⟨by omega, _, fun _ => .slice none 0 0, heap_alloc_new w _, rfl, fun i hi => ?_, fun i hi => ⟨?_, World.ownsRow_nil _ _ _ _⟩, fun i j _ _ _ => .inl rfl, rfl⟩
  · rcases i with _|_|_|_|_|_|_|_|_|_|_|_|_|_|_|_|i <;> first | rfl | omega
  · rcases i with _|_|_|_|_|_|_|_|_|_|_|_|_|_|_|_|i <;> first | rfl | omega

set_option maxRecDepth 100000 in
set_option maxHeartbeats 2000000 in
theorem huffNew_ok (A : Option Addr) (c : Nat) (xs : List Int) (w : World) (h : Ints .i64 w A xs) (hb : cntB xs = true) (hn : xs.length ≤ 400) (hc : cntN xs ≤ 32768) :
    Calls Try.prog 106 #[.slice A xs.length c] w fun e w' => (∃ g, e = .returned (.tuple #[.pointer (some ⟨g, 0, none⟩), .int .i64 0]) ∧ w.heap.size < g ∧ CodeRep (g + 1) g w' (firstAt xs xs.length) (symsAt xs xs.length) (deepAt xs xs.length)) ∧ Below w.heap.size w w' := by
  obtain ⟨i0, hi, hz0, hz1, hz2⟩ := info_parts Try.info_int
  have hall : ∀ k, k < xs.length → 0 ≤ xs.getD k 0 ∧ xs.getD k 0 ≤ 15 := by
    intro k hk
    have h1 := List.all_eq_true.1 (show xs.all okLen = true from hb) (xs.getD k 0) (by rw [List.getD_eq_getElem?_getD, List.getElem?_eq_getElem hk]; exact List.getElem_mem hk)
    simpa [okLen] using h1
  go_enter Try.func106, Try.ntmps106
  go_wp2_with (go_at_call 120; refine (codes_ok A c xs w h hb hn hc).mono ?_; rintro e w1 ⟨rfl, hrow, hbel⟩)
  have hrep := newCells_rep w1
  go_loopw [21] (fun i wr => ∃ k : Nat, k ≤ xs.length ∧ i = .int .i64 k ∧ CodeRep (w1.heap.size + 1) w1.heap.size wr (firstAt xs k) (symsAt xs k) (deepAt xs k) ∧ Below w1.heap.size w1 wr) (fun i _ => xs.length - (intOf i).toNat)
  case atStart => exact ⟨0, by omega, rfl, hrep, (Below.refl _ _).alloc (Nat.le_refl _) _⟩
  case round =>
    clear hrep
    obtain ⟨k, hk, rfl, hrep, hb1⟩ := hrel
    by_cases hlt : k < xs.length
    · obtain ⟨b, o, rfl, hbs, hcell⟩ := h (by omega)
      have hck := ((hb1.cell (p := ⟨b, o + k, none⟩) (Nat.lt_of_lt_of_le hbs hbel.size)).trans (hbel.cell (p := ⟨b, o + k, none⟩) hbs)).trans (hcell k hlt)
      have hxk := hall k hlt
      clear hcell h hall
      generalize hx : xs.getD k 0 = x at hck hxk
      have HX : Hid (xs.getD k 0 = x) := hx
      clear hx
      by_cases h0 : x = 0
      · subst h0
        clear hxk
        go_wp2
        go_roundw
        case rel =>
          refine ⟨k + 1, by omega, by go_num, hrep.congr (fun i _ => ?_) (fun i _ => ?_) ?_, hb1⟩
          · rw [firstAt, if_neg]; rintro ⟨h1, h2, _⟩; rw [HX.out] at h1; omega
          · rw [symsAt, if_neg]; rintro ⟨h1, h2⟩; rw [HX.out] at h1; omega
          · rw [deepAt, if_pos HX.out]
        case measure => simp [intOf]; omega
      · obtain ⟨m, rfl⟩ := Int.eq_ofNat_of_zero_le hxk.1
        have hm1 : 0 < m := by omega
        have hm2 : m ≤ 15 := by omega
        clear hxk h0
        obtain ⟨Am, cm, hcm, hown⟩ := hrep.cellS (i := m) (by omega)
        have hcf := hrep.cellF (i := m) (by omega)
        have hff := hrep.frozen m
        have hcode := (hb1.cell (p := ⟨w.heap.size, k, none⟩) (RowI.base hrow).2).trans (RowI.cell hrow hlt)
        generalize hcv : (codesL xs).getD k 0 = cv at hcode
        have HCV := Lib.hid hcv
        clear hcv hown
        go_upto_if 35 with (fail)
        go_cut [] (fun wx => CodeRep (w1.heap.size + 1) w1.heap.size wx (firstAt xs (k + 1)) (symsAt xs k) (deepAt xs k) ∧ Below w1.heap.size w1 wx)
        case first =>
          go_wp2
          · go_region
            go_wp2
            go_meet
            have h9 : (((symsAt xs k m).length : Int) == 0) = true := by assumption
            have h9' : (symsAt xs k m).length = 0 := by simpa using h9
            refine ⟨((hrep.setF (m := m) (by omega) cv).drew).congr (fun i _ => ?_) (fun _ _ => rfl) rfl, (hb1.setCell (by exact Nat.le_refl _) _).drew⟩
            by_cases e : i = m
            · subst e; simp only [if_true]; rw [firstAt, if_pos ⟨HX.out, hm1, h9'⟩, HCV.out]
            · simp only [e, if_false]; rw [firstAt, if_neg]; rintro ⟨h1, h2, _⟩; rw [HX.out] at h1; omega
          · go_wp2
            go_meet
            have h9 : (((symsAt xs k m).length : Int) == 0) = false := by assumption
            have h9' : (symsAt xs k m).length ≠ 0 := by simpa using h9
            refine ⟨hrep.congr (fun i _ => ?_) (fun _ _ => rfl) rfl, hb1⟩
            rw [firstAt, if_neg]; rintro ⟨h1, h2, h3⟩; rw [HX.out] at h1; have : i = m := by omega
            subst this; exact h9' h3
        case rest =>
          clear hrep hb1 hcm hcf hff hcode hck
          obtain ⟨hrep, hb1⟩ := hcut
          obtain ⟨Am, cm, hcm, hown⟩ := hrep.cellS (i := m) (by omega)
          have hfm := hrep.frozen (16 + m)
          have hlen := symsAt_len xs k m
          have hcm1 : ((wc.alloc (.cells #[.int .i64 (k : Int)] 3)).drew).cell? ⟨w1.heap.size, 16 + m, none⟩ = some (.slice Am (symsAt xs k m).length cm) := (World.cell?_alloc_lt wc _ ⟨w1.heap.size, 16 + m, none⟩ hrep.blk).trans hcm
          have hmI : (m : Int) < 16 := by omega
          have hG := hrep.blk
          go_wp2
          go_region_law (refine step_append_lies _ rfl (.tmp 52) (.tmp 54) 121 rfl (w1.heap.size + 1) 3 i0 (.int .i64 0) 1 8 Try.underlying121 hi hz0 hz1 hz2 rfl (by decide) (.slice Am (symsAt xs k m).length cm) (symsAt xs k m).length ((symsAt xs k m).map (Value.int .i64)) rfl ?_ ⟨wc.heap.size, 0, none⟩ 1 1 [.int .i64 k] rfl rfl ?_ ?_ (by decide) ?_ ?_ ?_ (wc.heap.size + 1) ?_ ?_; exact hown.alloc _; exact cell_one_new wc _ _; exact ints_oneCell .i64 [(k : Int)]; (unfold maxLen; omega); omega; (simp; omega); simp; intro g' cap' w3 hown3 hgrow3 hwh3 hlt3; have hfar := ((hrep.alloc _).drew).far hgrow3 (own_ne hown hrep.lt) (16 + m); have h3c := hfar.1.trans hcm1; have h3f := hfar.2; clear hfar)
          all_goals
            have hrep3 := ((hrep.alloc (.cells #[.int .i64 (k : Int)] 3)).drew).push (m := m) (by omega) hcm1 k hown3 hgrow3 (by rcases hwh3 with h' | h'; exact .inl h'; exact .inr (by rw [h']; simp))
            have hb3 : Below w1.heap.size w1 (w3.setCell ⟨w1.heap.size, 16 + m, none⟩ (.slice (some ⟨g', 0, none⟩) ((symsAt xs k m).length + 1) cap')) :=
              (((hb1.alloc (by omega) _).drew).grown hgrow3 (by simp; omega) (fun q hq => by have := hown.lt q hq; omega)).setCell (by exact Nat.le_refl _) _
            clear hown3 hgrow3 hwh3 hlt3 hcm1 hown hrep hb1 hcm h3c h3f
            generalize hw4 : w3.setCell ⟨w1.heap.size, 16 + m, none⟩ (.slice (some ⟨g', 0, none⟩) ((symsAt xs k m).length + 1) cap') = w4 at *
            clear hw4
            have hcd := hrep3.cellD
            have hfd := hrep3.frozen 32
            go_wp2
          all_goals
            go_roundw
            case rel =>
              refine ⟨k + 1, by omega, by go_num, (hrep3.setD _).congr (fun _ _ => rfl) (fun i _ => ?_) ?_, hb3.setCell (by exact Nat.le_refl _) _⟩
              · by_cases e : i = m
                · subst e; simp only [if_true]; rw [symsAt, if_pos ⟨HX.out, hm1⟩]
                · simp only [e, if_false]; rw [symsAt, if_neg]; rintro ⟨h1, h2⟩; rw [HX.out] at h1; omega
              · have e1 : deepAt xs (k + 1) = max (deepAt xs k) (m : Int) := by rw [deepAt, HX.out, if_neg (by omega)]
                rw [e1]; split <;> omega
            case measure => simp [intOf]; omega
    · go_wp2
      go_ret2
      obtain rfl : k = xs.length := by omega
      exact ⟨⟨_, rfl, Nat.lt_of_lt_of_le (RowI.base hrow).2 (Nat.le_refl _), hrep⟩, hbel.trans (hb1.mono hbel.size)⟩
end Go.Proofs.Ytoeipgbnjcgbjaa
