/- The document's sorted: coins by their worth, those of one worth in their order. -/
import Derived.Test.YtdmggpngmlhboaaLstC
import Derived.Deep.QuietTactic
import Derived.BigQuiet
namespace Go.Proofs.Ytdmggpngmlhboaa
open Go.RowKit
set_option linter.unusedVariables false

/-- One coin on its way to its place. -/
def slotR (M : List El) (y : El) (k : Nat) : List El := M.take k ++ y :: M.drop k
theorem slotR_length (M : List El) (y : El) (k : Nat) : (slotR M y k).length = M.length + 1 := by
  unfold slotR
  rw [List.length_append, List.length_cons, List.length_take, List.length_drop]; omega
theorem slotR_all (M : List El) (y : El) : slotR M y M.length = M ++ [y] := by unfold slotR; rw [List.take_length, List.drop_length]
theorem slotR_at {M : List El} {y z : El} {p k : Nat} (hz : M[p]? = some z) (hp : p < k) : (slotR M y k)[p]? = some z := by
  unfold slotR
  have := (List.getElem?_eq_some_iff.1 hz).1
  rw [List.getElem?_append_left (by rw [List.length_take]; omega), List.getElem?_take, if_pos hp]; exact hz
theorem slotR_set {M : List El} {k : Nat} (y x : El) (hk : k ≤ M.length) : (slotR M y k).set k x = slotR M x k := by
  unfold slotR
  rw [List.set_append_right _ _ (by rw [List.length_take]; omega), List.length_take, show k - min k M.length = 0 by omega, List.set_cons_zero]
theorem slotR_down {M : List El} {z : El} {p : Nat} (hz : M[p]? = some z) : slotR M z (p + 1) = slotR M z p := by
  have h := (List.getElem?_eq_some_iff.1 hz).1
  unfold slotR
  rw [List.take_succ_eq_append_getElem h, (List.getElem?_eq_some_iff.1 hz).2, List.append_assoc, List.drop_eq_getElem_cons h, (List.getElem?_eq_some_iff.1 hz).2]; rfl
def SdPost (W : World) (N : Nat) (L : List El) (e : Ending) (w' : World) : Prop :=
  ∃ A c, e = .returned (.slice A N c) ∧ OwnS w' W.heap.size 84 2 (.slice A N c) N ((Srt.isort ltE L).flatMap encE) ∧ Below W.heap.size W w'
/-- Between the turns that bring one coin to its place. -/
structure InsSt (W w : World) (g off cap i k : Nat) (M : List El) (x y : El) : Prop where
  row : SRow w 84 2 encE g off cap (slotR M y k)
  up : ∀ z ∈ M.drop k, ltE x z = true
  bel : Below W.heap.size W w
theorem InsSt.drew {W w : World} {g off cap i k : Nat} {M : List El} {x y : El} (h : InsSt W w g off cap i k M x y) (n : Nat) : InsSt W (w.drewN n) g off cap i k M x y :=
  ⟨h.row.below ⟨rfl, rfl, rfl, Nat.le_refl _, fun _ _ => rfl⟩, h.up, Below.drewN h.bel n⟩
theorem putCells_below {W : World} {g : Nat} (hg : W.heap.size ≤ g) : ∀ (vs : List Value) (w : World) (o : Nat), Below W.heap.size W w → Below W.heap.size W (putCells w g o vs)
  | [], w, o, h => h
  | v :: vs, w, o, h => putCells_below hg vs _ _ (Below.setCell h (show W.heap.size ≤ (⟨g, o, none⟩ : Addr).block from hg) v)
theorem InsSt.step {W w : World} {g off cap i p : Nat} {M : List El} {x y z : El} (h : InsSt W w g off cap i (p + 1) M x y) (hg : W.heap.size ≤ g) (hz : M[p]? = some z) (hlt : ltE x z = true) :
    InsSt W (putCells w g (off + (p + 1) * 2) (encE z)) g off cap i p M x z := by
  have hp := (List.getElem?_eq_some_iff.1 hz).1
  refine ⟨?_, ?_, putCells_below hg _ _ _ h.bel⟩
  · have := h.row.put (i := p + 1) (by rw [slotR_length]; omega) z
    rw [slotR_set _ _ (by omega), slotR_down hz] at this
    exact this
  · intro q hq
    rw [List.drop_eq_getElem_cons hp] at hq
    rcases List.mem_cons.1 hq with rfl | hq
    · rw [(List.getElem?_eq_some_iff.1 hz).2]; exact hlt
    · exact h.up q hq
theorem InsSt.done {W w : World} {g off cap i k : Nat} {M : List El} {x y : El} (h : InsSt W w g off cap i k M x y) (hg : W.heap.size ≤ g) (hk : k ≤ M.length) (hi : M.length = i) (hs : Srt.Sorted ltE M) (hle : ∀ p z, k = p + 1 → M[p]? = some z → ltE x z = false) :
    OwnS (putCells w g (off + k * 2) (encE x)) W.heap.size 84 2 (.slice (some ⟨g, off, none⟩) (i + 1) cap) (i + 1) ((Srt.ins ltE x M).flatMap encE) ∧ Below W.heap.size W (putCells w g (off + k * 2) (encE x)) := by
  refine ⟨?_, putCells_below hg _ _ _ h.bel⟩
  have h1 := h.row.put (i := k) (by rw [slotR_length]; omega) x
  rw [slotR_set _ _ hk] at h1
  have h2 := h1.own_ (n := i + 1) hg (by rw [slotR_length, hi])
  have h3 : Srt.ins ltE x M = slotR M x k := by
    have h4 := Srt.ins_at (lt := ltE) x (M.take k) (M.drop k) (fun y hy => ?_) (fun y t ht => h.up y (by rw [ht]; simp))
    · rw [List.take_append_drop] at h4; exact h4
    · cases k with
      | zero => simp at hy
      | succ p =>
        have hp : p < M.length := by omega
        have h5 := hle p _ rfl (List.getElem?_eq_getElem hp)
        rw [List.take_succ_eq_append_getElem hp] at hy
        refine Srt.Sorted.all_le swoE (l := M.take p) (z := M[p]) ?_ h5 y hy
        rw [← List.take_succ_eq_append_getElem hp]
        exact hs.sublist (List.take_sublist _ _)
  rw [h3]; exact h2
theorem InsSt.cells {W w : World} {g off cap i k : Nat} {M : List El} {x y : El} (h : InsSt W w g off cap i k M x y) (hk : k < M.length + 1) :
    w.cell? ⟨g, off + k * 2, none⟩ = some (.int .i64 y.w) ∧ w.frozen? ⟨g, off + k * 2, none⟩ = false ∧ w.cell? ⟨g, off + k * 2 + 1, none⟩ = some (.slice y.A y.n y.c) ∧ w.frozen? ⟨g, off + k * 2 + 1, none⟩ = false := by
  have hl := slotR_length M y k
  have hat : (slotR M y k)[k]? = some y := by
    unfold slotR
    rw [List.getElem?_append_right (by rw [List.length_take]; omega), List.length_take, show k - min k M.length = 0 by omega]; rfl
  exact ⟨h.row.r0 hat, h.row.freeAt (c := 0) (by omega) (by decide), h.row.r1 hat, h.row.freeAt (c := 1) (by omega) (by decide)⟩
set_option maxRecDepth 100000 in
set_option maxHeartbeats 8000000 in
theorem sorted_any (A : Option Addr) (N c B : Nat) (L : List El) (W : World) (hO : OwnS W B 84 2 (.slice A N c) N (L.flatMap encE)) (hok : ∀ e ∈ L, okE e) (hN : N ≤ 1073741824) :
    Calls Try.prog 38 #[.slice A N c] W (SdPost W N L) := by
  have hLN : L.length = N := by
    have h1 := hO.1
    rw [flat_length encE_len] at h1
    omega
  obtain ⟨i0, hi, hz0, hz1, hz2⟩ := info_parts Try.info_RCoin
  have HO := Lib.hid hO
  have HLN := Lib.hid hLN
  clear hO hLN hok
  go_enter Try.func38, Try.ntmps38
  go_wp2
  go_loopw [3, 4] (fun vo iv wr => ∃ i : Nat, iv = .int .i64 i ∧ i ≤ N ∧ OwnS wr W.heap.size 84 2 vo i ((Srt.isort ltE (L.take i)).flatMap encE) ∧ Below W.heap.size W wr) (fun _ iv _ => N - (intOf iv).toNat)
  case atStart => exact ⟨0, rfl, Nat.zero_le _, OwnS.nil _ _ _ _, Below.refl _ _⟩
  case round =>
    obtain ⟨i, rfl, hiN, hM, hB⟩ := hrel
    by_cases hlt : i < N
    · obtain ⟨gl, ol, cl, hvl, _, hgl0, hsr⟩ := SRow.of_ownR HO.out (by omega)
      injection hvl with hAl _ hcl
      subst hAl; subst hcl
      obtain ⟨x, hx⟩ : ∃ x, L[i]? = some x := ⟨_, List.getElem?_eq_getElem (by have := HLN.out; omega)⟩
      have hgl := hsr.blk
      have x0 := (hB.cell (p := ⟨gl, ol + i * 2, none⟩) hgl).trans (hsr.r0 hx)
      have x1 := (hB.cell (p := ⟨gl, ol + i * 2 + 1, none⟩) hgl).trans (hsr.r1 hx)
      have hml : (Srt.isort ltE (L.take i)).length = i := by rw [Srt.isort_length, List.length_take, HLN.out]; omega
      have hms := Srt.isort_sorted swoE (L.take i)
      have hnx : Srt.isort ltE (L.take (i + 1)) = Srt.ins ltE x (Srt.isort ltE (L.take i)) := by
        rw [List.take_add_one, hx]
        exact Srt.isort_snoc _ _
      generalize Srt.isort ltE (L.take i) = M at *
      have HNX := Lib.hid hnx
      have HML := Lib.hid hml
      have HMS := Lib.hid hms
      have HGL := Lib.hid hgl
      have HX0 := Lib.hid hsr
      have HXI := Lib.hid hx
      obtain ⟨Ao, co, rfl⟩ := hM.shape
      have hbase : W.heap.size ≤ wr.heap.size := hB.size
      have hmx1 : i + 1 ≤ maxLen := by unfold maxLen; omega
      have hmx2 : (i + 1) * 32 ≤ 140737488355328 := by omega
      have hO2 := hM.alloc (.cells #[.int .i64 x.w, .slice x.A x.n x.c] 84)
      have HO2 := Lib.hid hO2
      have HSR := Lib.hid (Src.coinR (P := Try.prog) (w := wr) x)
      have hb2 : Below W.heap.size W (wr.alloc (.cells #[.int .i64 x.w, .slice x.A x.n x.c] 84)) := hB.alloc hbase _
      have HB2 := Lib.hid hb2
      have hlow := fun q hq => (hM.lt q hq).1
      have HLOW := Lib.hid hlow
      have HZ2 : Hid (W.heap.size ≤ (wr.alloc (.cells #[.int .i64 x.w, .slice x.A x.n x.c] 84)).heap.size) := hb2.size
      clear hnx hml hms hgl hM hB hO2 hb2 hsr hx hlow
      go_wp2_with (at_builtin; refine wpList_append_S rfl (.tmp 14) (.tmp 19) 82 82 rfl i0 _ 32 (.slice 84) Try.underlying82 Try.underlying82 (fun _ h => by cases h) hi hz0 hz1 hz2 rfl rfl rfl HO2.out HSR.out hmx1 hmx2 HZ2.out ?_; intro A9 c9 w9 ho9 hg9 hw9)
      have hb9 : Below W.heap.size W w9 := HB2.out.trans ((Chg.of_grown (S := fun q => (Value.slice Ao i co).ownBlock = some q) hg9 (fun _ h => h)).below HZ2.out (fun q hq hs => by have := HLOW.out q hs; omega))
      have hrow : OwnS w9 W.heap.size 84 2 (.slice A9 (i + 1) c9) (i + 1) ((M ++ [x]).flatMap encE) := by rw [List.flatMap_append]; simpa using ho9
      obtain ⟨g, off, cap, hv9, hl9, hgb, hs9⟩ := SRow.of_ownR hrow (by omega)
      injection hv9 with hA9 _ hc9
      subst hA9; subst hc9
      have hst : InsSt W w9 g off c9 i i M x x := ⟨by have := slotR_all M x; rw [HML.out] at this; rw [this]; exact hs9, (by intro z hz; rw [← HML.out, List.drop_length] at hz; cases hz), hb9⟩
      have HST := Lib.hid hst
      have hx0 := (hb9.cell (p := ⟨gl, ol + i * 2, none⟩) HGL.out).trans ((HX0.out.r0 HXI.out))
      have hx1 := (hb9.cell (p := ⟨gl, ol + i * 2 + 1, none⟩) HGL.out).trans ((HX0.out.r1 HXI.out))
      clear hst hb9 hrow hl9 hs9 ho9 hg9 hw9 hx0 hx1 x0 x1 HSR HO2 HB2 HZ2 HLOW hi hz0 hz1 hz2
      have hci : i + 1 ≤ c9 := by have := HST.out.row.capLe.1; rw [slotR_length, HML.out] at this; exact this
      have hcm : c9 ≤ 9223372036854775807 := HST.out.row.capLe.2
      go_wp2
      go_loopw [5] (fun kv wr => ∃ (k : Nat) (y : El), kv = .int .i64 k ∧ k ≤ i ∧ InsSt W wr g off c9 i k M x y) (fun kv _ => (intOf kv).toNat)
      case atStart => exact ⟨i, x, rfl, Nat.le_refl _, HST.out⟩
      case round =>
        clear HST
        obtain ⟨k, y, rfl, hk, hst⟩ := hrel
        have x0 := (hst.bel.cell (p := ⟨gl, ol + i * 2, none⟩) HGL.out).trans ((HX0.out.r0 HXI.out))
        have x1 := (hst.bel.cell (p := ⟨gl, ol + i * 2 + 1, none⟩) HGL.out).trans ((HX0.out.r1 HXI.out))
        have i0 : (0 : Int) ≤ (i : Int) := by omega
        have i1 : (i : Int) < (N : Int) := by omega
        have HST := Lib.hid hst
        clear hst
        by_cases hk0 : k = 0
        · have g1 : decide ((0 : Int) < (k : Int)) = false := decide_eq_false (by omega)
          have g1' : decide (0 < k) = false := decide_eq_false (by omega)
          have HK := Lib.hid hk0
          obtain ⟨t0, f0, t1, f1⟩ := HST.out.cells (k := k) (by have := HML.out; omega)
          have hik : (k : Int) < ((i + 1 : Nat) : Int) := by omega
          have hik0 : (0 : Int) ≤ (k : Int) := by omega
          clear hk0
          go_wp2
          go_quiet (fail)
          go_wp2
          go_roundw
          case rel =>
            have hd := (HST.out.drew nq).done hgb (by have := HML.out; omega) HML.out HMS.out (fun p z hp _ => by have := HK.out; omega)
            refine ⟨i + 1, by go_num, by omega, ?_, ?_⟩
            · rw [HNX.out]; exact hd.1
            · exact hd.2
          case measure => simp [intOf]; omega
        · obtain ⟨p, hp⟩ : ∃ p, k = p + 1 := ⟨k - 1, by omega⟩
          have hpi : p < M.length := by rw [HML.out]; omega
          obtain ⟨z, hz⟩ : ∃ z, M[p]? = some z := ⟨_, List.getElem?_eq_getElem hpi⟩
          have z0 := HST.out.row.r0 (slotR_at (y := y) hz (by omega))
          have z1 := HST.out.row.r1 (slotR_at (y := y) hz (by omega))
          have e1 : (k : Int) - 1 = (p : Int) := by omega
          have HK := Lib.hid hp
          have HZ := Lib.hid hz
          have g1 : decide ((0 : Int) < (k : Int)) = true := decide_eq_true (by omega)
          have g1' : decide (0 < k) = true := decide_eq_true (by omega)
          have p0 : (0 : Int) ≤ (p : Int) := by omega
          have p1 : (p : Int) < ((i + 1 : Nat) : Int) := by omega
          obtain ⟨t0, f0, t1, f1⟩ := HST.out.cells (k := k) (by have := HML.out; omega)
          have hik : (k : Int) < ((i + 1 : Nat) : Int) := by omega
          have hik0 : (0 : Int) ≤ (k : Int) := by omega
          clear hp hz hk0
          by_cases hlz : x.w < z.w
          · have g2 : decide (x.w < z.w) = true := decide_eq_true hlz
            go_wp2
            go_quiet (fail)
            go_wp2
            go_roundw
            case rel =>
              have hst := HST.out.drew nq
              rw [HK.out] at hst
              have hs := hst.step (z := z) hgb HZ.out (decide_eq_true hlz)
              rw [← HK.out] at hs
              exact ⟨p, z, by go_num, by omega, hs⟩
            case measure => simp [intOf]; omega
          · have g2 : decide (x.w < z.w) = false := decide_eq_false hlz
            go_wp2
            go_quiet (fail)
            go_wp2
            go_roundw
            case rel =>
              have hd := (HST.out.drew nq).done hgb (by have := HML.out; omega) HML.out HMS.out (fun p' z' hp' hz' => by
                obtain rfl : p' = p := by have := HK.out; omega
                rw [HZ.out] at hz'
                injection hz' with hz'
                subst hz'
                exact (show decide (x.w < z.w) = false from decide_eq_false (by omega)))
              refine ⟨i + 1, by go_num, by omega, ?_, ?_⟩
              · rw [HNX.out]; exact hd.1
              · exact hd.2
            case measure => simp [intOf]; omega
    · obtain rfl : i = N := by omega
      obtain ⟨Ao, co, rfl⟩ := hM.shape
      have htk : L.take i = L := List.take_of_length_le (by have := HLN.out; omega)
      rw [htk] at hM
      have HM := Lib.hid hM
      have HB := Lib.hid hB
      clear hM hB htk
      go_wp2
      go_ret
      exact ⟨Ao, co, rfl, HM.out, HB.out⟩
end Go.Proofs.Ytdmggpngmlhboaa
