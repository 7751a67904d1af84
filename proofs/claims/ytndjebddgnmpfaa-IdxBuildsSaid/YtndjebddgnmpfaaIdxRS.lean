/- The document's sorted: objects by their IDs. -/
import Derived.Test.YtndjebddgnmpfaaIdxHL
import Derived.Deep.QuietTactic
import Derived.BigQuiet
import Derived.Test.YtndjebddgnmpfaaIdxNO
import Derived.Test.YtndjebddgnmpfaaIdxF
namespace Go.Proofs.Ytndjebddgnmpfaa
open Go.RowKit
set_option linter.unusedVariables false

/-- One coin on its way to its place. -/
def slotR (M : List El) (y : El) (k : Nat) : List El := M.take k ++ y :: M.drop k
theorem slotR_length (M : List El) (y : El) (k : Nat) : (slotR M y k).length = M.length + 1 := by
  unfold slotR
  rw [List.length_append, List.length_cons, List.length_take, List.length_drop]; omega
theorem slotR_all (M : List El) (y : El) : slotR M y M.length = M ++ [y] := by unfold slotR; rw [List.take_length, List.drop_length]
theorem slotR_at {M : List El} {y z : El} {p k : Nat} (hz : M[p]? = some z) (hp : p < k) : (slotR M y k)[p]? = some z := by
  unfold slotR
  have := (List.getElem?_eq_some_iff.1 hz).1
  rw [List.getElem?_append_left (by rw [List.length_take]; omega), List.getElem?_take, if_pos hp]; exact hz
theorem slotR_set {M : List El} {k : Nat} (y x : El) (hk : k ≤ M.length) : (slotR M y k).set k x = slotR M x k := by
  unfold slotR
  rw [List.set_append_right _ _ (by rw [List.length_take]; omega), List.length_take, show k - min k M.length = 0 by omega, List.set_cons_zero]
theorem slotR_down {M : List El} {z : El} {p : Nat} (hz : M[p]? = some z) : slotR M z (p + 1) = slotR M z p := by
  have h := (List.getElem?_eq_some_iff.1 hz).1
  unfold slotR
  rw [List.take_succ_eq_append_getElem h, (List.getElem?_eq_some_iff.1 hz).2, List.append_assoc, List.drop_eq_getElem_cons h, (List.getElem?_eq_some_iff.1 hz).2]; rfl
def SdPost (W : World) (N : Nat) (L : List El) (e : Ending) (w' : World) : Prop :=
  ∃ A c, e = .returned (.slice A N c) ∧ OwnS w' W.heap.size 30 5 (.slice A N c) N ((Srt.isort ltE L).flatMap encE) ∧ Below W.heap.size W w'
theorem str_lt (x y : El) : Op.bytesLess x.id.toList y.id.toList = ltE x y := by
  have h := str_less (bytesOf x.id) (bytesOf y.id) (bytesOf_ok _) (bytesOf_ok _)
  rw [strOfNums_bytes, strOfNums_bytes] at h
  exact h
theorem gt_str (x z : El) : (ltE x z = true → Op.bytesLess z.id.toList x.id.toList = false ∧ (z.id.toList == x.id.toList) = false) ∧ (ltE x z = false → Op.bytesLess z.id.toList x.id.toList = true ∨ (Op.bytesLess z.id.toList x.id.toList = false ∧ (z.id.toList == x.id.toList) = true)) := by
  rw [str_lt]
  have ht := ltL_tot (bytesOf x.id) (bytesOf z.id)
  have hti : ∀ h : z.id.toList = x.id.toList, z.id = x.id := fun h => by
    rw [ByteArray.toList_eq, ByteArray.toList_eq] at h
    exact ByteArray.ext (Array.toList_inj.1 h)
  unfold ltE
  constructor
  · intro h
    rw [h] at ht
    have hn : (ltL (bytesOf z.id) (bytesOf x.id) || decide (bytesOf z.id = bytesOf x.id)) = false := ht.symm
    simp only [Bool.or_eq_false_iff, decide_eq_false_iff_not] at hn
    refine ⟨hn.1, ?_⟩
    rw [beq_eq_false_iff_ne]
    exact fun h => hn.2 (by rw [hti h])
  · intro h
    rw [h] at ht
    have hn : (ltL (bytesOf z.id) (bytesOf x.id) || decide (bytesOf z.id = bytesOf x.id)) = true := ht.symm
    cases hz : ltL (bytesOf z.id) (bytesOf x.id)
    · rw [hz] at hn
      simp only [Bool.false_or, decide_eq_true_eq] at hn
      right
      refine ⟨rfl, ?_⟩
      rw [beq_iff_eq]
      have : z.id = x.id := by rw [← strOfNums_bytes z.id, hn, strOfNums_bytes]
      rw [this]
    · exact .inl rfl
/-- One object that is to be appended, in a block of its own. -/
theorem src_one {P : Program} {w : World} (x : El) : Src P (w.alloc (.cells #[.int .i64 x.kind, .slice x.A x.n x.c, .string x.id, .int .i64 x.at_, .int .u32 x.crc] 30)) 5 (.slice (some ⟨w.heap.size, 0, none⟩) 1 1) 1 (encE x) :=
  Src.vals rfl (fun u hu => encE_one [x] u (by simpa using hu)) (fun _ => ⟨_, rfl, by exact World.news_of_block (heap_alloc_new w _)⟩)
/-- Between the turns that bring one coin to its place. -/
structure InsSt (W w : World) (g off cap i k : Nat) (M : List El) (x y : El) : Prop where
  row : SRow w 30 5 encE g off cap (slotR M y k)
  up : ∀ z ∈ M.drop k, ltE x z = true
  bel : Below W.heap.size W w
theorem InsSt.drew {W w : World} {g off cap i k : Nat} {M : List El} {x y : El} (h : InsSt W w g off cap i k M x y) (n : Nat) : InsSt W (w.drewN n) g off cap i k M x y :=
  ⟨h.row.below ⟨rfl, rfl, rfl, Nat.le_refl _, fun _ _ => rfl⟩, h.up, Below.drewN h.bel n⟩
theorem putCells_below {W : World} {g : Nat} (hg : W.heap.size ≤ g) : ∀ (vs : List Value) (w : World) (o : Nat), Below W.heap.size W w → Below W.heap.size W (putCells w g o vs)
  | [], w, o, h => h
  | v :: vs, w, o, h => putCells_below hg vs _ _ (Below.setCell h (show W.heap.size ≤ (⟨g, o, none⟩ : Addr).block from hg) v)
theorem InsSt.step {W w : World} {g off cap i p : Nat} {M : List El} {x y z : El} (h : InsSt W w g off cap i (p + 1) M x y) (hg : W.heap.size ≤ g) (hz : M[p]? = some z) (hlt : ltE x z = true) :
    InsSt W (putCells w g (off + (p + 1) * 5) (encE z)) g off cap i p M x z := by
  have hp := (List.getElem?_eq_some_iff.1 hz).1
  refine ⟨?_, ?_, putCells_below hg _ _ _ h.bel⟩
  · have := h.row.put (i := p + 1) (by rw [slotR_length]; omega) z
    rw [slotR_set _ _ (by omega), slotR_down hz] at this
    exact this
  · intro q hq
    rw [List.drop_eq_getElem_cons hp] at hq
    rcases List.mem_cons.1 hq with rfl | hq
    · rw [(List.getElem?_eq_some_iff.1 hz).2]; exact hlt
    · exact h.up q hq
theorem InsSt.done {W w : World} {g off cap i k : Nat} {M : List El} {x y : El} (h : InsSt W w g off cap i k M x y) (hg : W.heap.size ≤ g) (hk : k ≤ M.length) (hi : M.length = i) (hs : Srt.Sorted ltE M) (hle : ∀ p z, k = p + 1 → M[p]? = some z → ltE x z = false) :
    OwnS (putCells w g (off + k * 5) (encE x)) W.heap.size 30 5 (.slice (some ⟨g, off, none⟩) (i + 1) cap) (i + 1) ((Srt.ins ltE x M).flatMap encE) ∧ Below W.heap.size W (putCells w g (off + k * 5) (encE x)) := by
  refine ⟨?_, putCells_below hg _ _ _ h.bel⟩
  have h1 := h.row.put (i := k) (by rw [slotR_length]; omega) x
  rw [slotR_set _ _ hk] at h1
  have h2 := h1.own5 (n := i + 1) hg (by rw [slotR_length, hi])
  have h3 : Srt.ins ltE x M = slotR M x k := by
    have h4 := Srt.ins_at (lt := ltE) x (M.take k) (M.drop k) (fun y hy => ?_) (fun y t ht => h.up y (by rw [ht]; simp))
    · rw [List.take_append_drop] at h4; exact h4
    · cases k with
      | zero => simp at hy
      | succ p =>
        have hp : p < M.length := by omega
        have h5 := hle p _ rfl (List.getElem?_eq_getElem hp)
        rw [List.take_succ_eq_append_getElem hp] at hy
        refine Srt.Sorted.all_le swoE (l := M.take p) (z := M[p]) ?_ h5 y hy
        rw [← List.take_succ_eq_append_getElem hp]
        exact hs.sublist (List.take_sublist _ _)
  rw [h3]; exact h2
theorem SRow.rc {w : World} {g off cap i c : Nat} {L : List El} {x : El} (h : SRow w 30 5 encE g off cap L) (hi : L[i]? = some x) (hc : c < 5) : w.cell? ⟨g, off + i * 5 + c, none⟩ = some ((encE x).getD c undef) := h.cell hi hc
theorem InsSt.cells {W w : World} {g off cap i k : Nat} {M : List El} {x y : El} (h : InsSt W w g off cap i k M x y) (hk : k < M.length + 1) :
    w.cell? ⟨g, off + k * 5, none⟩ = some (.int .i64 y.kind) ∧ w.frozen? ⟨g, off + k * 5, none⟩ = false ∧ w.cell? ⟨g, off + k * 5 + 1, none⟩ = some (.slice y.A y.n y.c) ∧ w.frozen? ⟨g, off + k * 5 + 1, none⟩ = false ∧ w.cell? ⟨g, off + k * 5 + 2, none⟩ = some (.string y.id) ∧ w.frozen? ⟨g, off + k * 5 + 2, none⟩ = false ∧ w.cell? ⟨g, off + k * 5 + 3, none⟩ = some (.int .i64 y.at_) ∧ w.frozen? ⟨g, off + k * 5 + 3, none⟩ = false ∧ w.cell? ⟨g, off + k * 5 + 4, none⟩ = some (.int .u32 y.crc) ∧ w.frozen? ⟨g, off + k * 5 + 4, none⟩ = false := by
  have hl := slotR_length M y k
  have hat : (slotR M y k)[k]? = some y := by
    unfold slotR
    rw [List.getElem?_append_right (by rw [List.length_take]; omega), List.length_take, show k - min k M.length = 0 by omega]; rfl
  exact ⟨h.row.rc (c := 0) hat (by decide), h.row.freeAt (c := 0) (by omega) (by decide), h.row.rc (c := 1) hat (by decide), h.row.freeAt (c := 1) (by omega) (by decide), h.row.rc (c := 2) hat (by decide), h.row.freeAt (c := 2) (by omega) (by decide), h.row.rc (c := 3) hat (by decide), h.row.freeAt (c := 3) (by omega) (by decide), h.row.rc (c := 4) hat (by decide), h.row.freeAt (c := 4) (by omega) (by decide)⟩
set_option maxRecDepth 100000 in
set_option maxHeartbeats 8000000 in
theorem sorted_any (A : Option Addr) (N c : Nat) (L : List El) (W : World) (hO : ObE W A L) (hLN : L.length = N) (hN : N ≤ 1073741824) :
    Calls Try.prog 34 #[.slice A N c] W (SdPost W N L) := by
  obtain ⟨i0, hi, hz0, hz1, hz2⟩ := info_parts info_obj
  have HO := Lib.hid hO
  have HLN := Lib.hid hLN
  clear hO hLN
  go_enter Try.func34, Try.ntmps34
  go_wp2
  go_loopw [3, 4] (fun vo iv wr => ∃ i : Nat, iv = .int .i64 i ∧ i ≤ N ∧ OwnS wr W.heap.size 30 5 vo i ((Srt.isort ltE (L.take i)).flatMap encE) ∧ Below W.heap.size W wr) (fun _ iv _ => N - (intOf iv).toNat)
  case atStart => exact ⟨0, rfl, Nat.zero_le _, OwnS.nil _ _ _ _, Below.refl _ _⟩
  case round =>
    obtain ⟨i, rfl, hiN, hM, hB⟩ := hrel
    by_cases hlt : i < N
    · obtain ⟨gl, ol, rfl, hgl, hcl⟩ := HO.out (by have := HLN.out; omega)
      obtain ⟨x, hx⟩ : ∃ x, L[i]? = some x := ⟨_, List.getElem?_eq_getElem (by have := HLN.out; omega)⟩
      have hrow := fun c (hc : c < 5) => hcl i c x hx hc
      have x0 : wr.cell? ⟨gl, ol + i * 5, none⟩ = some (.int .i64 x.kind) := (hB.cell (p := ⟨gl, ol + i * 5 + 0, none⟩) hgl).trans (hrow 0 (by decide))
      have x1 : wr.cell? ⟨gl, ol + i * 5 + 1, none⟩ = some (.slice x.A x.n x.c) := (hB.cell (p := ⟨gl, ol + i * 5 + 1, none⟩) hgl).trans (hrow 1 (by decide))
      have x2 : wr.cell? ⟨gl, ol + i * 5 + 2, none⟩ = some (.string x.id) := (hB.cell (p := ⟨gl, ol + i * 5 + 2, none⟩) hgl).trans (hrow 2 (by decide))
      have x3 : wr.cell? ⟨gl, ol + i * 5 + 3, none⟩ = some (.int .i64 x.at_) := (hB.cell (p := ⟨gl, ol + i * 5 + 3, none⟩) hgl).trans (hrow 3 (by decide))
      have x4 : wr.cell? ⟨gl, ol + i * 5 + 4, none⟩ = some (.int .u32 x.crc) := (hB.cell (p := ⟨gl, ol + i * 5 + 4, none⟩) hgl).trans (hrow 4 (by decide))
      have hml : (Srt.isort ltE (L.take i)).length = i := by rw [Srt.isort_length, List.length_take, HLN.out]; omega
      have hms := Srt.isort_sorted swoE (L.take i)
      have hnx : Srt.isort ltE (L.take (i + 1)) = Srt.ins ltE x (Srt.isort ltE (L.take i)) := by
        rw [List.take_add_one, hx]
        exact Srt.isort_snoc _ _
      generalize Srt.isort ltE (L.take i) = M at *
      have HNX := Lib.hid hnx
      have HML := Lib.hid hml
      have HMS := Lib.hid hms
      have HGL := Lib.hid hgl
      have HRW := Lib.hid hrow
      obtain ⟨Ao, co, rfl⟩ := hM.shape
      have hbase : W.heap.size ≤ wr.heap.size := hB.size
      have hmx1 : i + 1 ≤ maxLen := by unfold maxLen; omega
      have hmx2 : (i + 1) * 64 ≤ 140737488355328 := by omega
      have hO2 := hM.alloc (.cells #[.int .i64 x.kind, .slice x.A x.n x.c, .string x.id, .int .i64 x.at_, .int .u32 x.crc] 30)
      have HO2 := Lib.hid hO2
      have HSR := Lib.hid (src_one (P := Try.prog) (w := wr) x)
      have hb2 : Below W.heap.size W (wr.alloc (.cells #[.int .i64 x.kind, .slice x.A x.n x.c, .string x.id, .int .i64 x.at_, .int .u32 x.crc] 30)) := hB.alloc hbase _
      have HB2 := Lib.hid hb2
      have hlow := fun q hq => (hM.lt q hq).1
      have HLOW := Lib.hid hlow
      have HZ2 : Hid (W.heap.size ≤ (wr.alloc (.cells #[.int .i64 x.kind, .slice x.A x.n x.c, .string x.id, .int .i64 x.at_, .int .u32 x.crc] 30)).heap.size) := hb2.size
      clear hnx hml hms hgl hM hB hO2 hb2 hcl hrow hx hlow
      go_wp2_with (at_builtin; refine wpList_append_S rfl (.tmp 14) (.tmp 19) 23 23 rfl i0 _ 64 (.slice 30) Try.underlying23 Try.underlying23 (fun _ h => by cases h) hi hz0 hz1 hz2 rfl rfl rfl HO2.out HSR.out hmx1 hmx2 HZ2.out ?_; intro A9 c9 w9 ho9 hg9 hw9)
      have hb9 : Below W.heap.size W w9 := HB2.out.trans ((Chg.of_grown (S := fun q => (Value.slice Ao i co).ownBlock = some q) hg9 (fun _ h => h)).below HZ2.out (fun q hq hs => by have := HLOW.out q hs; omega))
      have hrow : OwnS w9 W.heap.size 30 5 (.slice A9 (i + 1) c9) (i + 1) ((M ++ [x]).flatMap encE) := by rw [List.flatMap_append]; simpa using ho9
      obtain ⟨g, off, cap, hv9, hgb, hs9⟩ := SRow.of_own5 hrow (fun h => by injection h with _ h _; omega)
      injection hv9 with hA9 _ hc9
      subst hA9; subst hc9
      have hst : InsSt W w9 g off c9 i i M x x := ⟨by have := slotR_all M x; rw [HML.out] at this; rw [this]; exact hs9, (by intro z hz; rw [← HML.out, List.drop_length] at hz; cases hz), hb9⟩
      have HST := Lib.hid hst
      clear hst hb9 hrow hs9 ho9 hg9 hw9 x0 x1 x2 x3 x4 HSR HO2 HB2 HZ2 HLOW hi hz0 hz1 hz2
      have hci : i + 1 ≤ c9 := by have := HST.out.row.capLe.1; rw [slotR_length, HML.out] at this; exact this
      have hcm : c9 ≤ 9223372036854775807 := HST.out.row.capLe.2
      go_wp2
      go_loopw [5] (fun kv wr => ∃ (k : Nat) (y : El), kv = .int .i64 k ∧ k ≤ i ∧ InsSt W wr g off c9 i k M x y) (fun kv _ => (intOf kv).toNat)
      case atStart => exact ⟨i, x, rfl, Nat.le_refl _, HST.out⟩
      case round =>
        clear HST
        obtain ⟨k, y, rfl, hk, hst⟩ := hrel
        have x0 : wr.cell? ⟨gl, ol + i * 5, none⟩ = some (.int .i64 x.kind) := (hst.bel.cell (p := ⟨gl, ol + i * 5 + 0, none⟩) HGL.out).trans (HRW.out 0 (by decide))
        have x1 : wr.cell? ⟨gl, ol + i * 5 + 1, none⟩ = some (.slice x.A x.n x.c) := (hst.bel.cell (p := ⟨gl, ol + i * 5 + 1, none⟩) HGL.out).trans (HRW.out 1 (by decide))
        have x2 : wr.cell? ⟨gl, ol + i * 5 + 2, none⟩ = some (.string x.id) := (hst.bel.cell (p := ⟨gl, ol + i * 5 + 2, none⟩) HGL.out).trans (HRW.out 2 (by decide))
        have x3 : wr.cell? ⟨gl, ol + i * 5 + 3, none⟩ = some (.int .i64 x.at_) := (hst.bel.cell (p := ⟨gl, ol + i * 5 + 3, none⟩) HGL.out).trans (HRW.out 3 (by decide))
        have x4 : wr.cell? ⟨gl, ol + i * 5 + 4, none⟩ = some (.int .u32 x.crc) := (hst.bel.cell (p := ⟨gl, ol + i * 5 + 4, none⟩) HGL.out).trans (HRW.out 4 (by decide))
        have i0 : (0 : Int) ≤ (i : Int) := by omega
        have i1 : (i : Int) < (N : Int) := by omega
        have HST := Lib.hid hst
        clear hst
        by_cases hk0 : k = 0
        · have g1 : decide ((0 : Int) < (k : Int)) = false := decide_eq_false (by omega)
          have g1' : decide (0 < k) = false := decide_eq_false (by omega)
          have HK := Lib.hid hk0
          obtain ⟨t0, f0, t1, f1, t2, f2, t3, f3, t4, f4⟩ := HST.out.cells (k := k) (by have := HML.out; omega)
          have hik : (k : Int) < ((i + 1 : Nat) : Int) := by omega
          have hik0 : (0 : Int) ≤ (k : Int) := by omega
          clear hk0
          go_wp2
          go_quiet (fail)
          go_wp2
          go_roundw
          case rel =>
            have hd := (HST.out.drew nq).done hgb (by have := HML.out; omega) HML.out HMS.out (fun p z hp _ => by have := HK.out; omega)
            refine ⟨i + 1, by go_num, by omega, ?_, ?_⟩
            · rw [HNX.out]; exact hd.1
            · exact hd.2
          case measure => simp [intOf]; omega
        · obtain ⟨p, hp⟩ : ∃ p, k = p + 1 := ⟨k - 1, by omega⟩
          have hpi : p < M.length := by rw [HML.out]; omega
          obtain ⟨z, hz⟩ : ∃ z, M[p]? = some z := ⟨_, List.getElem?_eq_getElem hpi⟩
          have zz := slotR_at (y := y) (k := k) hz (by omega)
          have z0 : wr.cell? ⟨g, off + p * 5, none⟩ = some (.int .i64 z.kind) := HST.out.row.rc (c := 0) zz (by decide)
          have z1 : wr.cell? ⟨g, off + p * 5 + 1, none⟩ = some (.slice z.A z.n z.c) := HST.out.row.rc (c := 1) zz (by decide)
          have z2 : wr.cell? ⟨g, off + p * 5 + 2, none⟩ = some (.string z.id) := HST.out.row.rc (c := 2) zz (by decide)
          have z3 : wr.cell? ⟨g, off + p * 5 + 3, none⟩ = some (.int .i64 z.at_) := HST.out.row.rc (c := 3) zz (by decide)
          have z4 : wr.cell? ⟨g, off + p * 5 + 4, none⟩ = some (.int .u32 z.crc) := HST.out.row.rc (c := 4) zz (by decide)
          have e1 : (k : Int) - 1 = (p : Int) := by omega
          have HK := Lib.hid hp
          have HZ := Lib.hid hz
          have g1 : decide ((0 : Int) < (k : Int)) = true := decide_eq_true (by omega)
          have g1' : decide (0 < k) = true := decide_eq_true (by omega)
          have p0 : (0 : Int) ≤ (p : Int) := by omega
          have p1 : (p : Int) < ((i + 1 : Nat) : Int) := by omega
          obtain ⟨t0, f0, t1, f1, t2, f2, t3, f3, t4, f4⟩ := HST.out.cells (k := k) (by have := HML.out; omega)
          have hik : (k : Int) < ((i + 1 : Nat) : Int) := by omega
          have hik0 : (0 : Int) ≤ (k : Int) := by omega
          have g2 := gt_str x z
          clear hp hz hk0 zz
          cases hlz : ltE x z
          case true =>
            obtain ⟨g2, g3⟩ := g2.1 hlz
            have HLZ := Lib.hid hlz
            clear hlz
            go_wp2
            go_quiet (fail)
            go_wp2
            go_roundw
            case rel =>
              have hst := HST.out.drew nq
              rw [HK.out] at hst
              have hs := hst.step (z := z) hgb HZ.out HLZ.out
              rw [← HK.out] at hs
              exact ⟨p, z, by go_num, by omega, hs⟩
            case measure => simp [intOf]; omega
          case false =>
            have HLZ := Lib.hid hlz
            rcases g2.2 hlz with g2 | ⟨g2, g3⟩
            all_goals clear hlz
            · go_wp2
              go_quiet (fail)
              go_wp2
              go_roundw
              case rel =>
                have hd := (HST.out.drew nq).done hgb (by have := HML.out; omega) HML.out HMS.out (fun p' z' hp' hz' => by
                  obtain rfl : p' = p := by have := HK.out; omega
                  rw [HZ.out] at hz'
                  injection hz' with hz'
                  subst hz'
                  exact HLZ.out)
                refine ⟨i + 1, by go_num, by omega, ?_, ?_⟩
                · rw [HNX.out]; exact hd.1
                · exact hd.2
              case measure => simp [intOf]; omega
            · go_wp2
              go_quiet (fail)
              go_wp2
              go_roundw
              case rel =>
                have hd := (HST.out.drew nq).done hgb (by have := HML.out; omega) HML.out HMS.out (fun p' z' hp' hz' => by
                  obtain rfl : p' = p := by have := HK.out; omega
                  rw [HZ.out] at hz'
                  injection hz' with hz'
                  subst hz'
                  exact HLZ.out)
                refine ⟨i + 1, by go_num, by omega, ?_, ?_⟩
                · rw [HNX.out]; exact hd.1
                · exact hd.2
              case measure => simp [intOf]; omega
    · obtain rfl : i = N := by omega
      obtain ⟨Ao, co, rfl⟩ := hM.shape
      have htk : L.take i = L := List.take_of_length_le (by have := HLN.out; omega)
      rw [htk] at hM
      have HM := Lib.hid hM
      have HB := Lib.hid hB
      clear hM hB htk
      go_wp2
      go_ret
      exact ⟨Ao, co, rfl, HM.out, HB.out⟩
end Go.Proofs.Ytndjebddgnmpfaa
namespace Go.Proofs.Ytndjebddgnmpfaa
open Go.RowKit
set_option linter.unusedVariables false
set_option linter.unusedSimpArgs false

theorem Bufs.app_S {W w w' : World} {L : List (Value × List Int)} (h : Bufs W w L) (i : Nat) {v : Value} {xs news : List Int} {m c : Nat} {A : Option Addr} (hi : L[i]? = some (v, xs)) (hm : news.length = m)
    (ho : OwnS w' W.heap.size 5 1 (.slice A (xs.length + m) c) (xs.length + m) (xs.map (Value.int .u8) ++ news.map (Value.int .u8))) (hg : w.grownBy w' v.ownBlock) (hw : (Value.slice A (xs.length + m) c).ownBlock = v.ownBlock ∨ (Value.slice A (xs.length + m) c).ownBlock = some w.heap.size) :
    Bufs W w' (L.set i (.slice A (xs.length + m) c, xs ++ news)) := by
  refine h.grown i hi hg ?_ (hw.imp id fun h => ⟨_, h, Nat.le_refl _⟩)
  have e : (xs ++ news).length = xs.length + m := by rw [List.length_append, hm]
  rw [e, List.map_append]
  exact ho
/-- Which of the sorted begin with a byte of c at most: just the first ones. -/
theorem GoodS.hd_mono {S : List El} (hG : GoodS S) (hs : Srt.Sorted ltE S) (i j : Nat) (x y : El) (hij : i ≤ j) (hx : S[i]? = some x) (hy : S[j]? = some y) : hd0 x ≤ hd0 y := by
  have hok : ∀ x ∈ S, okO x = true := fun x hx => hG.all hx
  by_cases he : i = j
  · subst he
    rw [hx] at hy
    injection hy with hy
    rw [hy]; exact Int.le_refl _
  · have h1 := hG.ltAll hs i x hx (j - i - 1) y (by rw [show i + (j - i - 1) + 1 = j by omega]; exact hy)
    rw [← lt_uid (hok x (List.mem_of_getElem? hx)) (hok y (List.mem_of_getElem? hy))] at h1
    exact hd_le h1 (by rw [(okO_uid (hok x (List.mem_of_getElem? hx))).2.1]; decide)
theorem GoodS.cnt_iff {S : List El} (hG : GoodS S) (hs : Srt.Sorted ltE S) (n : Nat) (x : El) (hx : S[n]? = some x) (c : Int) : hd0 x ≤ c ↔ n < cntLt S (c + 1) := by
  have hn := (List.getElem?_eq_some_iff.1 hx).1
  have hsplit : ∀ k, cntLt S (c + 1) = cntLt (S.take k) (c + 1) + cntLt (S.drop k) (c + 1) := fun k => by rw [← cntLt_append, List.take_append_drop]
  constructor
  · intro h
    have h2 : cntLt (S.take (n + 1)) (c + 1) = (S.take (n + 1)).length := cntLt_all (fun y hy => by
      obtain ⟨j, hj, rfl⟩ := List.getElem_of_mem hy
      rw [List.length_take] at hj
      have := hG.hd_mono hs j n S[j] x (by omega) (List.getElem?_eq_getElem (by omega)) hx
      rw [List.getElem_take]
      omega)
    rw [List.length_take] at h2
    have := hsplit (n + 1)
    omega
  · intro h
    by_cases hc : hd0 x ≤ c
    · exact hc
    · have h2 : cntLt (S.drop n) (c + 1) = 0 := cntLt_none (fun y hy => by
        obtain ⟨j, hj, rfl⟩ := List.getElem_of_mem hy
        rw [List.length_drop] at hj
        rw [List.getElem_drop]
        have := hG.hd_mono hs n (n + j) x S[n + j] (by omega) hx (List.getElem?_eq_getElem (by omega))
        omega)
      have h3 := cntLt_le (S.take n) (c + 1)
      rw [List.length_take] at h3
      have := hsplit n
      omega
theorem beI_mod (n : Int) : beI n = be4 (n % 4294967296) := by
  unfold beI be4
  congr 1
  · omega
  · congr 1
    · omega
    · congr 1
      · omega
      · congr 1
        omega
theorem beI_small (n : Int) (h0 : 0 ≤ n) (h1 : n < 4294967296) : beI n = be4 n := by
  rw [beI_mod, Int.emod_eq_of_lt h0 h1]
theorem u32_or31 (n : Nat) (hn : n < 2147483648) : bits .or .u32 2147483648 (n : Int) = 2147483648 + (n : Int) := by
  have e1 : ∀ a : Nat, a < 4294967296 → (BitVec.ofInt 32 (a : Int)).toNat = a := fun a ha => by
    rw [BitVec.ofInt_natCast, BitVec.toNat_ofNat]; exact Nat.mod_eq_of_lt (by omega)
  show IntKind.u32.wrap ((BitVec.ofInt 32 (2147483648 : Int) ||| BitVec.ofInt 32 (n : Int)).toNat : Int) = _
  have h2 : (BitVec.ofInt 32 (2147483648 : Int)).toNat = 2147483648 := by decide
  rw [BitVec.toNat_or, h2, e1 n (by omega)]
  have h3 := Nat.two_pow_add_eq_or_of_lt (show n < 2 ^ 31 by omega) 1
  have h4 : 2147483648 ||| n = 2147483648 + n := by simpa using h3.symm
  rw [h4, IntWalk.u32_in _ (by omega)]
  omega
theorem Bufs.pair_nil {W w : World} {L : List (Value × List Int)} (h : Bufs W w L) (i : Nat) {v : Value} {xs : List Int} (hi : L[i]? = some (v, xs)) : Bufs W w [(v, xs), (Value.slice none 0 0, [])] :=
  Bufs.first 1 h.low (h.get i hi)
/-- What the document's Build tells. -/
def RBPost (L : List El) (p : ByteArray) (w : World) (e : Ending) (w' : World) : Prop :=
  Below w.heap.size w w' ∧ (¬ BuildOk L p → e = .returned (.tuple #[.slice none 0 0, .int .i64 1])) ∧
  (BuildOk L p → ∃ A c, e = .returned (.tuple #[.slice A (buildL (Srt.isort ltE L) (unV (bytesOf p))).length c, .int .i64 0]) ∧ Ints .u8 w' A (buildL (Srt.isort ltE L) (unV (bytesOf p))))
set_option maxRecDepth 100000 in
theorem long_any (n : Int) (w : World) (h0 : 0 ≤ n) (h1 : n ≤ 4611686018427387904) : Calls Try.prog 37 #[.int .i64 n] w fun e w' => ∃ A c, e = .returned (.slice A 8 c) ∧ Ints .u8 w' A (beI (n / 4294967296) ++ beI n) ∧ Below w.heap.size w w' := by
  obtain ⟨i0, hi, hz0, hz1, hz2⟩ := info_parts Try.info_u8
  have w1 : IntKind.u32.wrap (n / 4294967296) = n / 4294967296 := IntWalk.u32_in _ (by omega)
  have w2 : IntKind.u32.wrap n = n % 4294967296 := IntKind.wrap_u32 _
  have HW1 := Lib.hid (fun w => word_any (n / 4294967296) w (by omega) (by omega))
  have HW2 := Lib.hid (fun w => word_any (n % 4294967296) w (by omega) (by omega))
  have HB1 : Hid (be4 (n / 4294967296) = beI (n / 4294967296)) := Lib.hid (beI_small _ (by omega) (by omega)).symm
  have HB2 : Hid (be4 (n % 4294967296) = beI n) := Lib.hid (beI_mod n).symm
  go_enter Try.func37, Try.ntmps37
  go_wp2_with fail
  refine (HW1.out w).mono ?_
  rintro e w3 ⟨A3, c3, rfl, ho3, hb3⟩
  rw [HB1.out] at ho3 ⊢
  have HO3 := Lib.hid ho3
  have HB3 := Lib.hid hb3
  clear ho3 hb3
  go_wp2_with fail
  refine (HW2.out w3).mono ?_
  rintro e w4 ⟨A4, c4, rfl, ho4, hb4⟩
  rw [HB2.out] at ho4 ⊢
  have ho3 := HO3.out.chg (Chg.of_below (S := fun _ => False) hb4) (fun _ _ h => h)
  have hs4 := Src.ints (P := Try.prog) (c := c4) ho4.ints
  have hsz := Nat.le_trans HB3.out.size hb4.size
  have HB4 := Lib.hid (HB3.out.trans (hb4.mono HB3.out.size))
  have l1 : (beI (n / 4294967296)).length = 4 := rfl
  have l2 : (beI n).length = 4 := rfl
  rw [l1] at ho3 ⊢
  rw [l2] at hs4 ⊢
  clear ho4 hb4
  go_wp2_with (at_builtin; refine wpList_append_S rfl (.tmp 6) (.tmp 9) 24 24 rfl i0 _ 1 (.slice 5) Try.underlying24 Try.underlying24 (fun _ h => by cases h) hi hz0 hz1 hz2 rfl rfl rfl ho3 hs4 (by unfold maxLen; omega) (by omega) hsz ?_; intro A9 c9 w9 ho9 hg9 hw9)
  go_ret
  rw [← List.map_append] at ho9
  exact ⟨_, _, rfl, ho9.ints, HB4.out.trans ((Chg.of_grown (S := fun k => (Value.slice A3 4 c3).ownBlock = some k) hg9 (fun _ h => h)).below hsz (fun k hk hs => by have := (ho3.lt k hs).1; omega))⟩
end Go.Proofs.Ytndjebddgnmpfaa
