/- The document's Parse: up to the entries. -/
import Derived.Test.YtndjebddgnmpfaaIdxE
import Derived.Test.YtndjebddgnmpfaaSoZ
import Derived.Test.YtndjebddgnmpfaaSumRefS
import Derived.Test.YtndjebddgnmpfaaSumRefH
namespace Go.Proofs.Ytndjebddgnmpfaa
open Go.RowKit
set_option linter.unusedVariables false
set_option linter.unusedSimpArgs false

def gotA (v : Value) (p : ByteArray) (x : Int) : Array Value := #[v, .string p, .int .i64 x]
def gotF (v : Value) (p : ByteArray) (x : Int) (j : Nat) : Value := if j = 0 then v else if j = 1 then .string p else .int .i64 x
theorem gotA_at (v : Value) (p : ByteArray) (x : Int) (j : Nat) (h : j < 3) : (gotA v p x)[j]? = some (gotF v p x j) := by
  rcases j with _ | _ | _ | j <;> first | rfl | omega
theorem info_got (v : Value) (p : ByteArray) (x : Int) : (Try.prog.info? 45).map (·.size) = some (gotA v p x).size := by kernel_rfl
theorem got_stored {w : World} {g : Nat} {v : Value} {p : ByteArray} {x : Int} {f : Nat → Value} (h : Cel w g 45 3 (fun j => if 0 ≤ j ∧ j < 0 + (gotA v p x).size then (gotA v p x).getD (j - 0) undef else f j)) : Cel w g 45 3 (gotF v p x) :=
  h.congr fun i hi => by
    have hs : (gotA v p x).size = 3 := rfl
    rw [hs, if_pos ⟨by omega, by omega⟩, Nat.sub_zero, Array.getD_eq_getD_getElem?, gotA_at v p x i hi]
    rfl
theorem got_new (w : World) : Cel (w.alloc (.cells #[.slice none 0 0, .string ⟨#[]⟩, .int .i64 0] 45)) w.heap.size 45 3 (gotF (.slice none 0 0) ⟨#[]⟩ 0) :=
  Cel.new w _ (gotA (.slice none 0 0) ⟨#[]⟩ 0) _ fun i hi => gotA_at _ _ _ i hi
theorem gotA_one (A : Option Addr) (n c : Nat) (p : ByteArray) (x : Int) : ∀ v ∈ (gotA (.slice A n c) p x).toList, v.oneCell' = true := by simp [gotA, Value.oneCell']
/-- What the document's Parse tells. -/
def GotPost (b : List Int) (w : World) (e : Ending) (w' : World) : Prop :=
  ∃ (A : Option Addr) (n c : Nat), e = .returned (.agg (gotA (.slice A n c) (if errV b = 0 then strOfNums (packV b) else ⟨#[]⟩) (errV b))) ∧ (errV b = 0 → n = cntN b ∧ ObsAt w' A (entsL b)) ∧ (errV b ≠ 0 → A = none ∧ n = 0 ∧ c = 0) ∧ Below w.heap.size w w'
theorem GotPost.no {b : List Int} {w w' : World} {x : Int} (h : errV b = x) (hx : x ≠ 0) (hb : Below w.heap.size w w') : GotPost b w (.returned (.agg (gotA (.slice none 0 0) ⟨#[]⟩ x))) w' :=
  ⟨none, 0, 0, by rw [h, if_neg hx], (fun h' => absurd (h.symm.trans h') hx), (fun _ => ⟨rfl, rfl, rfl⟩), hb⟩
def fansV (b : List Int) (k : Nat) : List Value := (List.range k).map fun j => Value.int .u64 (fan b j)
theorem fansV_len (b : List Int) (k : Nat) : (fansV b k).length = k := by simp [fansV]
theorem fansV_succ (b : List Int) (k : Nat) : fansV b (k + 1) = fansV b k ++ [Value.int .u64 (fan b k)] := by simp [fansV, List.range_succ]
def lastV (b : List Int) (k : Nat) : Int := if k = 0 then 0 else fan b (k - 1)
theorem getL_four (b : List Int) (p : Nat) (h : p + 4 ≤ b.length) : getL ((b.drop p).take 4) = n4 b p := by
  have e : (b.drop p).take 4 = [b.getD p 0, b.getD (p + 1) 0, b.getD (p + 2) 0, b.getD (p + 3) 0] := by
    apply List.ext_getElem?
    intro j
    rw [List.getElem?_take]
    rcases j with _ | _ | _ | _ | j
    · simp [List.getD_eq_getElem?_getD, List.getElem?_eq_getElem (show p < b.length by omega)]
    · simp [List.getD_eq_getElem?_getD, List.getElem?_eq_getElem (show p + 1 < b.length by omega)]
    · simp [List.getD_eq_getElem?_getD, List.getElem?_eq_getElem (show p + 2 < b.length by omega)]
    · simp [List.getD_eq_getElem?_getD, List.getElem?_eq_getElem (show p + 3 < b.length by omega)]
    · rw [if_neg (by omega)]; simp
  rw [e]
  unfold getL n4
  simp only [List.foldl_cons, List.foldl_nil]
  omega
theorem info_u64 : (Try.prog.info? 71).map (fun i => (i.zero, i.size, i.bytes)) = some (some (.int .u64 0), 1, 8) := by kernel_rfl
theorem err_acc {b : List Int} (hl : 1072 ≤ b.length) (h : accB b = false) : errV b = 3 := by
  unfold errV
  rw [if_neg (by omega), if_pos h]
theorem err_fans {b : List Int} (hl : 1072 ≤ b.length) (h : fansB b = false) : errV b = 3 := err_acc hl (head_no (by unfold headB; rw [h]; cases decide (b.take 8 = magicL) <;> rfl))
theorem far_byte {b : List Int} (hb : Bytes b) (p : Nat) : 128 ≤ b.getD p 0 ↔ 2147483648 ≤ n4 b p := by
  have key : ∀ j, 0 ≤ b.getD j 0 ∧ b.getD j 0 < 256 := fun j => by
    by_cases hj : j < b.length
    · exact hb.at_ j hj
    · rw [List.getD_eq_getElem?_getD, List.getElem?_eq_none (by omega)]; simp
  have h1 := key p
  have h2 := key (p + 1)
  have h3 := key (p + 2)
  have h4 := key (p + 3)
  unfold n4
  omega
def entsV (b : List Int) (n i : Nat) : List Value := ((List.range i).map (entV b n)).flatMap fun x => (entA x).toList
theorem entsV_succ (b : List Int) (n i : Nat) : entsV b n (i + 1) = entsV b n i ++ (entA (entV b n i)).toList := by simp [entsV, List.range_succ]
def loV (b : List Int) (q : Nat) : Int := if q = 0 then 0 else fan b (q - 1)
theorem fans_cell {w : World} {B : Nat} {A : Option Addr} {cc : Nat} {b : List Int} (h : OwnS w B 71 1 (.slice A 256 cc) 256 (fansV b 256)) :
    ∃ g o, A = some ⟨g, o, none⟩ ∧ ∀ j, j < 256 → w.cell? ⟨g, o + j, none⟩ = some (.int .u64 (fan b j)) := by
  obtain ⟨g, o, c', e, _, _, hc⟩ := h.cells (by rw [fansV_len]; decide)
  injection e with e _ _
  refine ⟨g, o, e, fun j hj => ?_⟩
  rw [hc j (by rw [fansV_len]; exact hj)]
  simp [fansV, hj]
theorem lo_z (b : List Int) (i q : Nat) : (decide (0 < q) && decide ((i : Int) < fan b (q - 1))) = decide ((i : Int) < loV b q) := by
  unfold loV
  by_cases h : q = 0
  · subst h
    rw [if_pos rfl]
    simp
  · rw [if_neg h, decide_eq_true (show 0 < q by omega), Bool.true_and]
theorem getL_eight (b : List Int) (p : Nat) (h : p + 8 ≤ b.length) : getL ((b.drop p).take 8) = n4 b p * 4294967296 + n4 b (p + 4) := by
  have e : (b.drop p).take 8 = [b.getD p 0, b.getD (p + 1) 0, b.getD (p + 2) 0, b.getD (p + 3) 0, b.getD (p + 4) 0, b.getD (p + 4 + 1) 0, b.getD (p + 4 + 2) 0, b.getD (p + 4 + 3) 0] := by
    apply List.ext_getElem?
    intro j
    rw [List.getElem?_take]
    rcases j with _ | _ | _ | _ | _ | _ | _ | _ | j
    · simp [List.getD_eq_getElem?_getD, List.getElem?_eq_getElem (show p < b.length by omega)]
    · simp [List.getD_eq_getElem?_getD, List.getElem?_eq_getElem (show p + 1 < b.length by omega)]
    · simp [List.getD_eq_getElem?_getD, List.getElem?_eq_getElem (show p + 2 < b.length by omega)]
    · simp [List.getD_eq_getElem?_getD, List.getElem?_eq_getElem (show p + 3 < b.length by omega)]
    · simp [List.getD_eq_getElem?_getD, List.getElem?_eq_getElem (show p + 4 < b.length by omega)]
    · simp [List.getD_eq_getElem?_getD, List.getElem?_eq_getElem (show p + 4 + 1 < b.length by omega)]
    · simp [List.getD_eq_getElem?_getD, List.getElem?_eq_getElem (show p + 4 + 2 < b.length by omega)]
    · simp [List.getD_eq_getElem?_getD, List.getElem?_eq_getElem (show p + 4 + 3 < b.length by omega)]
    · rw [if_neg (by omega)]; simp
  rw [e]
  unfold getL n4
  simp only [List.foldl_cons, List.foldl_nil]
  omega
theorem src_obj {P : Program} (w : World) (x : Ent) : Src P (w.alloc (.cells (entA x) 30)) 5 (.slice (some ⟨w.heap.size, 0, none⟩) 1 1) 1 (entA x).toList :=
  Src.vals rfl (entA_one x) (fun _ => ⟨_, rfl, World.news_of_block (heap_alloc_new w _)⟩)
/-- What holds while an object is put behind a row whose slice lies in a variable: calls that make memory; the object in a block of its own; the row grown; the slice stored. -/
structure Grew (B : Nat) (w6 : World) (v0 : Value) (m : Nat) (rows : List Value) (x : Ent) (v : Value) (w1 : World) : Prop where
  ex : ∃ w9 A c, Below w6.heap.size w6 w9 ∧ v = .slice A m c ∧ OwnS w1 B 30 5 (.slice A m c) m (rows ++ (entA x).toList) ∧ (w9.alloc (.cells (entA x) 30)).grownBy w1 v0.ownBlock
def IApp (B : Nat) (w6 : World) (g2 : Nat) (v0 : Value) (m : Nat) (rows : List Value) (x : Ent) : List Value → World → Prop
  | [], w1 => Below w6.heap.size w6 w1
  | [s], w1 => ∃ w9, Below w6.heap.size w6 w9 ∧ w1 = w9.alloc (.cells (entA x) 30) ∧ s = .slice (some ⟨w9.heap.size, 0, none⟩) 1 1
  | [_, v], w1 => Grew B w6 v0 m rows x v w1
  | _ :: v :: _, w1 => ∃ w8, Grew B w6 v0 m rows x v w8 ∧ w1 = w8.setCell ⟨g2, 0, none⟩ v
theorem own_obs {w : World} {B n c : Nat} {A : Option Addr} {b : List Int} (h : OwnS w B 30 5 (.slice A n c) n (entsV b n n)) : ObsAt w A ((List.range n).map (entV b n)) := fun hl => by
  have he : ∀ x : Ent, ((fun x : Ent => (entA x).toList) x).length = 5 := fun _ => rfl
  have hlen : (entsV b n n).length = n * 5 := h.1
  have hn : 0 < n := by simpa using hl
  obtain ⟨g, o, c', e, _, hlt, hc⟩ := h.cells (by omega)
  injection e with e _ _
  refine ⟨g, o, e, hlt, fun i x hx c hc5 => ?_⟩
  have hi : i < n := by have := (List.getElem?_eq_some_iff.1 hx).1; simpa using this
  rw [Nat.add_assoc, hc (i * 5 + c) (by rw [hlen]; omega)]
  have := flat_at he ((List.range n).map (entV b n)) i c x hx hc5
  rw [show entsV b n n = ((List.range n).map (entV b n)).flatMap (fun x : Ent => (entA x).toList) from rfl, this, Array.getElem?_toList]
  exact entA_at x c hc5
theorem refSum_any (xs : List Int) (w : World) (hb : Bytes xs) (hsz : xs.length ≤ 140737488351300) : Calls Try.prog 18 #[.string (strOfNums xs)] w (AskPost w (shaAll xs)) := by
  have h := refSha_any (strOfNums xs) w (by rw [strOfNums_size]; exact hsz)
  rw [bytesOf_str xs hb, strOfNums_size, ← shaAll_eq] at h
  exact h
theorem GotPost.yes {b : List Int} {w w' : World} {A : Option Addr} {n c : Nat} (h : errV b = 0) (hn : cntN b = n) (ho : ObsAt w' A (entsL b)) (hb : Below w.heap.size w w') : GotPost b w (.returned (.agg (gotA (.slice A n c) (strOfNums (packV b)) 0))) w' :=
  ⟨A, n, c, by rw [h, if_pos rfl], (fun _ => ⟨hn.symm, ho⟩), (fun h' => absurd h h'), hb⟩
set_option maxRecDepth 100000 in
set_option maxHeartbeats 16000000 in
theorem rParse_any (blk off N c : Nat) (b : List Int) (w : World) (hI : Ints .u8 w (some ⟨blk, off, none⟩) b) (hN : b.length = N) (hb : Bytes b) (hl : 1072 ≤ N) (hc : N ≤ c) (hcm : c ≤ 9223372036854775807) (hsz : N ≤ 140737488351300) :
    Calls Try.prog 15 #[.slice (some ⟨blk, off, none⟩) N c] w (GotPost b w) := by
  have hG := got_new w
  have hB0 : Below w.heap.size w (w.alloc (.cells #[.slice none 0 0, .string ⟨#[]⟩, .int .i64 0] 45)) := (Below.refl _ _).alloc (Nat.le_refl _) _
  have HG := Lib.hid hG
  have HB0 := Lib.hid hB0
  have HI := Lib.hid hI
  have HN := Lib.hid hN
  have HB := Lib.hid hb
  have d1 : decide ((N : Int) < 1072) = false := decide_eq_false (by omega)
  have d1' : decide (N < 1072) = false := decide_eq_false (by omega)
  clear hG hB0 hI hN hb
  go_enter Try.func15, Try.ntmps15
  go_upto_region 3 with (fail)
  generalize w.alloc (.cells #[.slice none 0 0, .string ⟨#[]⟩, .int .i64 0] 45) = w0 at *
  obtain ⟨g1, hg1⟩ : ∃ g, w.heap.size = g := ⟨_, rfl⟩
  rw [hg1] at HG ⊢
  have HG1 := Lib.hid hg1
  have hr : (convert 24 9 (.slice (some ⟨blk, off, none⟩) 8 c)).run Try.prog w0 = .ok (.string (strOfNums (b.take 8))) w0 := by
    have h8 : (b.take 8).length = 8 := by rw [List.length_take, HN.out]; omega
    have := run_str_ints (P := Try.prog) (w := w0) 24 9 5 Try.underlying24 Try.underlying5 Try.underlying9 (some ⟨blk, off, none⟩) c (b.take 8) ((HI.out.below HB0.out).take 8)
    rw [h8] at this
    exact this
  clear hg1
  by_cases hm : b.take 8 = magicL
  · rw [hm] at hr
    have hS : strOfNums magicL = ⟨#[255, 116, 79, 99, 0, 0, 0, 2]⟩ := by kernel_rfl
    rw [hS] at hr
    have HM := Lib.hid hm
    clear hS hm
    go_wp2
    clear hr
    go_loopw [3, 4, 5] (fun lv fv cv wr => ∃ (k : Nat) (A : Option Addr) (cc : Nat), cv = .int .i64 k ∧ lv = .int .u64 (lastV b k) ∧ fv = .slice A k cc ∧ k ≤ 256 ∧ (∀ j, j + 1 < k → fan b j ≤ fan b (j + 1)) ∧ OwnS wr w.heap.size 71 1 (.slice A k cc) k (fansV b k) ∧ Cel wr g1 45 3 (gotF (.slice none 0 0) ⟨#[]⟩ 0) ∧ Below w.heap.size w wr) (fun _ _ cv _ => 256 - (intOf cv).toNat)
    case atStart => exact ⟨0, none, 0, rfl, rfl, rfl, by omega, (fun j hj => by omega), OwnS.nil _ _ _ _, HG.out, HB0.out⟩
    case round =>
      clear HG HB0
      obtain ⟨k, A, cc, rfl, rfl, rfl, hk, hup, hO, hC, hBl⟩ := hrel
      have HUP := Lib.hid hup
      have HO := Lib.hid hO
      have HC := Lib.hid hC
      have HBL := Lib.hid hBl
      clear hup hO hC hBl
      by_cases hlt : k < 256
      · have d2 : decide ((k : Int) < 256) = true := decide_eq_true (by omega)
        have d2' : decide (k < 256) = true := decide_eq_true hlt
        obtain ⟨p, hp⟩ : ∃ p, 8 + 4 * k = p := ⟨_, rfl⟩
        obtain ⟨q, hq⟩ : ∃ q, 12 + 4 * k = q := ⟨_, rfl⟩
        have s1 : IntKind.i64.wrap (4 * (k : Int)) = 4 * (k : Int) := IntWalk.i64_in _ (by omega)
        have s2 : IntKind.i64.wrap (8 + 4 * (k : Int)) = (p : Int) := by rw [IntWalk.i64_in _ (by omega)]; omega
        have s3 : IntKind.i64.wrap (12 + 4 * (k : Int)) = (q : Int) := by rw [IntWalk.i64_in _ (by omega)]; omega
        have s4 : IntKind.i64.wrap ((k : Int) + 1) = ((k + 1 : Nat) : Int) := by rw [IntWalk.i64_in _ (by omega)]; omega
        have hqp : q - p = 4 := by omega
        have hpq : p ≤ q := by omega
        have hqc : q ≤ c := by omega
        have hpc : ¬ c = p := by omega
        have hfk : n4 b p = fan b k := by rw [← hp]; rfl
        have HGET := Lib.hid (get_any (some ⟨blk, off + p, none⟩) 4 (c - p) ((b.drop p).take 4) wr (((HI.out.below HBL.out).drop p).take 4) (by rw [List.length_take, List.length_drop, HN.out]; omega) (by decide) ((HB.out.drop p).take 4))
        rw [getL_four b p (by rw [HN.out]; omega), hfk] at HGET
        have hfb := fan_bd HB.out k
        have hl0 : lastV b (k + 1) = fan b k := by unfold lastV; rw [if_neg (by omega), Nat.add_sub_cancel]
        have HL0 := Lib.hid hl0
        clear hp hq hfk hl0
        by_cases hlo : fan b k < lastV b k
        · have HE : Hid (errV b = 3) := err_fans (by rw [HN.out]; exact hl) (by
            cases hF : fansB b
            · rfl
            · exfalso
              unfold lastV at hlo
              split at hlo
              · omega
              · have := (fansB_iff b).1 hF (k - 1) (by omega)
                rw [show k - 1 + 1 = k by omega] at this
                omega)
          have d3 : decide (fan b k < lastV b k) = true := decide_eq_true hlo
          generalize lastV b k = LV at *
          generalize fan b k = FV at *
          clear hlo HUP HO
          go_wp2_with fail
          refine HGET.out.mono ?_
          rintro e w5 ⟨rfl, rfl⟩
          have hC := HC.out
          go_wp2_with (refine wpList_store_part (vs := gotA (.slice none 0 0) ⟨#[]⟩ 3) (off := 0) rfl (.tmp 2) (.tmp 46) rfl rfl rfl hC (info_got _ _ _) (Nat.le_refl 3) (gotA_one _ _ _ _ _) ?_; intro w9 hC9 hg9 hs9; have hC7 := got_stored hC9)
          exact bodyPost_ret (v := .agg (gotA (.slice none 0 0) ⟨#[]⟩ 3)) (results_cel rfl _ rfl hC7 Try.underlying45 rfl (info_got _ _ _) (Nat.le_refl 3) (fun j hj => gotA_at _ _ _ j hj)) rfl (GotPost.no HE.out (by decide) (HBL.out.grown hg9 HBL.out.size (fun k h => by injection h with h; rw [← h, HG1.out]; exact Nat.le_refl _)))
        · have d3 : decide (fan b k < lastV b k) = false := decide_eq_false hlo
          have hup2 : ∀ j, j + 1 < k + 1 → fan b j ≤ fan b (j + 1) := fun j hj => by
            by_cases e : j + 1 < k
            · exact HUP.out j e
            · obtain rfl : k = j + 1 := by omega
              unfold lastV at hlo
              rw [if_neg (by omega), Nat.add_sub_cancel] at hlo
              omega
          have HU2 := Lib.hid hup2
          have HS := Lib.hid (fansV_succ b k)
          obtain ⟨i0, hi, hz0, hz1, hz2⟩ := info_parts info_u64
          clear hlo hup2 HUP
          generalize lastV b k = LV at *
          obtain ⟨FV, hFV⟩ : ∃ v, fan b k = v := ⟨_, rfl⟩
          rw [hFV] at d3 HGET HS hfb HL0
          clear hFV
          go_wp2_with fail
          refine HGET.out.mono ?_
          rintro e w5 ⟨rfl, rfl⟩
          go_wp2_with (at_builtin; go_loud (refine wpList_append_S rfl (.tmp 48) (.tmp 50) 72 72 rfl i0 (.int .u64 0) 8 (.slice 71) Try.underlying72 Try.underlying72 (fun _ h => by cases h) hi hz0 hz1 hz2 rfl rfl rfl (HO.out.alloc _) (Src.one_new (u := .int .u64 FV) rfl) ?_ ?_ ?_ ?_; (unfold maxLen; omega); omega; (have h1 := HBL.out.size; simp; omega); intro A5 c5 w5 ho5 hg5 hv5))
          have HO5 := Lib.hid ho5
          rw [← HS.out] at HO5
          have hblk := HC.out.blk
          have HC5 := Lib.hid ((HC.out.alloc (.cells #[.int .u64 FV] 71)).same (hg5.block g1 (by simp; omega) (fun e => HO.out.ne_cel HC.out (by decide) e.symm)))
          have HB5 := Lib.hid ((HBL.out.alloc HBL.out.size (.cells #[.int .u64 FV] 71)).grown hg5 (by have := HBL.out.size; simp; omega) (fun j hj => (HO.out.lt j hj).1))
          clear ho5 hg5 hv5 HO HC HBL HGET hi hz0 hz1 hz2 hblk
          go_roundw
          case rel => exact ⟨k + 1, A5, c5, rfl, by rw [HL0.out], rfl, by omega, HU2.out, HO5.out, HC5.out, HB5.out⟩
          case measure => simp [intOf]; omega
      · have hk2 : k = 256 := by omega
        subst hk2
        have d2 : decide (((256 : Nat) : Int) < 256) = false := rfl
        have HF := Lib.hid ((fansB_iff b).2 fun i hi => HUP.out i (by omega))
        have hla : lastV b 256 = fan b 255 := rfl
        have hcn := cntN_cast HB.out
        rw [hla, ← hcn]
        clear hla HUP hlt
        obtain ⟨n, hn⟩ : ∃ n, cntN b = n := ⟨_, rfl⟩
        rw [hn] at hcn ⊢
        have HNN := Lib.hid hn
        have hfb := fan_bd HB.out 255
        have hnb : (n : Int) < 4294967296 := by omega
        clear hn hfb
        by_cases hbig : 4096 < n
        · have HE : Hid (errV b = 3) := err_acc (by rw [HN.out]; exact hl) (head_no (by
            unfold headB
            rw [decide_eq_false (show ¬ fan b 255 ≤ 4096 by omega)]
            cases decide (b.take 8 = magicL) <;> cases fansB b <;> rfl))
          have d4 : decide ((4096 : Int) < (n : Int)) = true := decide_eq_true (by omega)
          have d4' : decide (4096 < n) = true := decide_eq_true hbig
          clear hbig hcn HO
          have hC := HC.out
          go_wp2_with (refine wpList_store_part (vs := gotA (.slice none 0 0) ⟨#[]⟩ 3) (off := 0) rfl (.tmp 2) (.tmp 54) rfl rfl rfl hC (info_got _ _ _) (Nat.le_refl 3) (gotA_one _ _ _ _ _) ?_; intro w9 hC9 hg9 hs9; have hC7 := got_stored hC9)
          exact bodyPost_ret (v := .agg (gotA (.slice none 0 0) ⟨#[]⟩ 3)) (results_cel rfl _ rfl hC7 Try.underlying45 rfl (info_got _ _ _) (Nat.le_refl 3) (fun j hj => gotA_at _ _ _ j hj)) rfl (GotPost.no HE.out (by decide) (HBL.out.grown hg9 HBL.out.size (fun k h => by injection h with h; rw [← h, HG1.out]; exact Nat.le_refl _)))
        · have d4 : decide ((4096 : Int) < (n : Int)) = false := decide_eq_false (by omega)
          have d4' : decide (4096 < n) = false := decide_eq_false hbig
          have hn4 : n ≤ 4096 := by omega
          have s5 : IntKind.i64.wrap (n : Int) = (n : Int) := IntWalk.i64_in _ (by omega)
          have s6 : IntKind.i64.wrap (28 * (n : Int)) = 28 * (n : Int) := IntWalk.i64_in _ (by omega)
          have s7 : IntKind.i64.wrap (1072 + 28 * (n : Int)) = 1072 + 28 * (n : Int) := IntWalk.i64_in _ (by omega)
          by_cases hle : N < 1072 + 28 * n
          · have HE : Hid (errV b = 3) := err_acc (by rw [HN.out]; exact hl) (head_no (by
              unfold headB
              rw [HNN.out, HN.out, decide_eq_false (show ¬ 1072 + 28 * n ≤ N by omega)]
              cases decide (b.take 8 = magicL) <;> cases fansB b <;> cases decide (fan b 255 ≤ 4096) <;> rfl))
            have d5 : decide ((N : Int) < 1072 + 28 * (n : Int)) = true := decide_eq_true (by omega)
            clear hbig hcn HO hle
            have hC := HC.out
            go_wp2_with (refine wpList_store_part (vs := gotA (.slice none 0 0) ⟨#[]⟩ 3) (off := 0) rfl (.tmp 2) (.tmp 63) rfl rfl rfl hC (info_got _ _ _) (Nat.le_refl 3) (gotA_one _ _ _ _ _) ?_; intro w9 hC9 hg9 hs9; have hC7 := got_stored hC9)
            exact bodyPost_ret (v := .agg (gotA (.slice none 0 0) ⟨#[]⟩ 3)) (results_cel rfl _ rfl hC7 Try.underlying45 rfl (info_got _ _ _) (Nat.le_refl 3) (fun j hj => gotA_at _ _ _ j hj)) rfl (GotPost.no HE.out (by decide) (HBL.out.grown hg9 HBL.out.size (fun k h => by injection h with h; rw [← h, HG1.out]; exact Nat.le_refl _)))
          · have d5 : decide ((N : Int) < 1072 + 28 * (n : Int)) = false := decide_eq_false (by omega)
            have HH : Hid (headB b = true) := (head_iff b).2 ⟨HM.out, HF.out, by omega, by rw [HNN.out, HN.out]; omega⟩
            have hNn : 1072 + 28 * n ≤ N := by omega
            obtain ⟨m1, hm1⟩ : ∃ m, 20 * n = m := ⟨_, rfl⟩
            obtain ⟨m2, hm2⟩ : ∃ m, 4 * n = m := ⟨_, rfl⟩
            have s8 : IntKind.i64.wrap (20 * (n : Int)) = (m1 : Int) := by rw [IntWalk.i64_in _ (by omega)]; omega
            have s9 : IntKind.i64.wrap (4 * (n : Int)) = (m2 : Int) := by rw [IntWalk.i64_in _ (by omega)]; omega
            have e1 : ¬ c = 1032 := by omega
            have e2 : ¬ c - 1032 = m1 := by omega
            have e3 : ¬ c - 1032 - m1 = m2 := by omega
            have e4 : 1032 ≤ N := by omega
            have e5 : m1 ≤ N - 1032 := by omega
            have e6 : m2 ≤ N - 1032 - m1 := by omega
            have hgo := HC.out.blk
            clear hbig hcn hle
            go_wp2
            obtain ⟨o3, ho3⟩ : ∃ o, off + 1032 + m1 + m2 = o := ⟨_, rfl⟩
            obtain ⟨N3, hN3⟩ : ∃ o, N - 1032 - m1 - m2 = o := ⟨_, rfl⟩
            obtain ⟨c3, hc3⟩ : ∃ o, c - 1032 - m1 - m2 = o := ⟨_, rfl⟩
            rw [ho3, hN3, hc3]
            have ho3' : o3 = off + (1032 + 24 * n) := by omega
            have hN3' : N3 + 1032 + 24 * n = N := by omega
            have hc3' : c3 + 1032 + 24 * n = c := by omega
            obtain ⟨bI, oI, hAI, hbI, hcI⟩ := (HI.out.below HBL.out) (by rw [HN.out]; omega)
            injection hAI with hAI
            injection hAI with z1 z2 _
            subst z1; subst z2
            have HCI := Lib.hid hcI
            have HO3 := Lib.hid ho3'
            have HN3 := Lib.hid hN3'
            have HC3 := Lib.hid hc3'
            clear hcI hbI ho3 hN3 hc3 hgo ho3' hN3' hc3'
            generalize wr = wq at *
            go_loopw [11, 12] (fun fv iv w9 => ∃ i : Nat, iv = .int .i64 i ∧ fv = .int .i64 (farN b n i) ∧ i ≤ n ∧ w9 = wq) (fun _ iv _ => n - (intOf iv).toNat)
            case atStart => exact ⟨0, rfl, rfl, Nat.zero_le _, rfl⟩
            case round =>
              obtain ⟨i, rfl, rfl, hin, hwr⟩ := hrel
              subst hwr
              have hf0 := farN_le b n i
              have HFS : Hid (farN b n (i + 1) = farN b n i + (if 2147483648 ≤ atV b n i then 1 else 0)) := rfl
              obtain ⟨f, hf⟩ : ∃ f, farN b n i = f := ⟨_, rfl⟩
              rw [hf] at hf0 HFS ⊢
              have HFN := Lib.hid hf
              clear hf
              by_cases hlt : i < n
              · have q1 : decide ((i : Int) < (n : Int)) = true := decide_eq_true (by omega)
                have q1' : decide (i < n) = true := decide_eq_true hlt
                obtain ⟨r, hr⟩ : ∃ r, 4 * i = r := ⟨_, rfl⟩
                have s10 : IntKind.i64.wrap (4 * (i : Int)) = (r : Int) := by rw [IntWalk.i64_in _ (by omega)]; omega
                have s11 : IntKind.i64.wrap ((f : Int) + 1) = ((f + 1 : Nat) : Int) := by rw [IntWalk.i64_in _ (by omega)]; omega
                have s12 : IntKind.i64.wrap ((i : Int) + 1) = ((i + 1 : Nat) : Int) := by rw [IntWalk.i64_in _ (by omega)]; omega
                have hrN : r < N3 := by have := HN3.out; omega
                have kx : wr.cell? ⟨blk, o3 + r, none⟩ = some (.int .u8 (b.getD (1032 + 24 * n + 4 * i) 0)) := by
                  have := HCI.out (1032 + 24 * n + 4 * i) (by rw [HN.out]; omega)
                  rw [show o3 + r = off + (1032 + 24 * n + 4 * i) by have := HO3.out; omega]
                  exact this
                have hfar := far_byte HB.out (1032 + 24 * n + 4 * i)
                generalize b.getD (1032 + 24 * n + 4 * i) 0 = x at *
                clear hr
                by_cases hx : 128 ≤ x
                · have q2 : decide (128 ≤ x) = true := decide_eq_true hx
                  have HF1 : Hid (farN b n (i + 1) = f + 1) := HFS.out.trans (by rw [if_pos (show 2147483648 ≤ atV b n i from hfar.1 hx)])
                  clear hx hfar
                  go_wp2
                  go_roundw
                  case rel => exact ⟨i + 1, rfl, by rw [HF1.out]; first | done | rfl | simp, by omega, by first | rfl | trivial⟩
                  case measure => simp [intOf]; omega
                · have q2 : decide (128 ≤ x) = false := decide_eq_false hx
                  have HF1 : Hid (farN b n (i + 1) = f) := HFS.out.trans (by rw [if_neg (show ¬ 2147483648 ≤ atV b n i from fun h => hx (hfar.2 h))]; rfl)
                  clear hx hfar
                  go_wp2
                  go_roundw
                  case rel => exact ⟨i + 1, rfl, by rw [HF1.out], by omega, by first | rfl | trivial⟩
                  case measure => simp [intOf]; omega
              · obtain rfl : n = i := by omega
                have q1 : decide ((n : Int) < (n : Int)) = false := decide_eq_false (by omega)
                have q1' : decide (n < n) = false := decide_eq_false (by omega)
                have s10 : IntKind.i64.wrap (8 * (f : Int)) = 8 * (f : Int) := IntWalk.i64_in _ (by omega)
                have s11 : IntKind.i64.wrap (1072 + 28 * (n : Int) + 8 * (f : Int)) = 1072 + 28 * (n : Int) + 8 * (f : Int) := IntWalk.i64_in _ (by omega)
                have hwh : wholeB b = decide (N = 1072 + 28 * n + 8 * f) := by
                  unfold wholeB
                  rw [HNN.out, HN.out, HFN.out]
                have HWH := Lib.hid hwh
                clear hwh hlt
                by_cases hw : N = 1072 + 28 * n + 8 * f
                · have t1 : ((N : Int) == 1072 + 28 * (n : Int) + 8 * (f : Int)) = true := by rw [beq_iff_eq]; omega
                  have e7 : ¬ c3 = m2 := by have := HC3.out; omega
                  have e8 : m2 ≤ N3 := by have := HN3.out; omega
                  have HW := Lib.hid hw
                  have hG2 := got_new wr
                  have HA : Hid (accB b = okToB b n n) := by
                    show _ = _
                    unfold accB
                    rw [HH.out, HWH.out, decide_eq_true hw, HNN.out]
                    cases okToB b n n <;> rfl
                  have HLC := Lib.hid (And.intro hl hc)
                  have HN4 := Lib.hid hn4
                  clear hw hn4 hnb hl hc e1 e2 e3 e4 e5 e6 s8 s9
                  go_wp2_with (refine wpList_store_part (vs := gotA (.slice none 0 0) ⟨#[]⟩ 0) (off := 0) rfl (.tmp 14) (.tmp 101) rfl rfl rfl hG2 (info_got _ _ _) (Nat.le_refl 3) (gotA_one _ _ _ _ _) ?_; intro w4 hC4 hg4 hs4; have hC5 := got_stored hC4)
                  obtain ⟨o1, ho1⟩ : ∃ o, off + 1032 = o := ⟨_, rfl⟩
                  obtain ⟨N1, hN1⟩ : ∃ o, N - 1032 = o := ⟨_, rfl⟩
                  obtain ⟨c1, hc1⟩ : ∃ o, c - 1032 = o := ⟨_, rfl⟩
                  rw [ho1, hN1, hc1]
                  obtain ⟨o2, ho2⟩ : ∃ o, o1 + m1 = o := ⟨_, rfl⟩
                  obtain ⟨N2, hN2⟩ : ∃ o, N1 - m1 = o := ⟨_, rfl⟩
                  obtain ⟨c2, hc2⟩ : ∃ o, c1 - m1 = o := ⟨_, rfl⟩
                  rw [ho2, hN2, hc2]
                  obtain ⟨o5, ho5⟩ : ∃ o, o3 + m2 = o := ⟨_, rfl⟩
                  obtain ⟨N5, hN5⟩ : ∃ o, N3 - m2 = o := ⟨_, rfl⟩
                  obtain ⟨c5, hc5⟩ : ∃ o, c3 - m2 = o := ⟨_, rfl⟩
                  rw [ho5, hN5, hc5]
                  have HPL : Hid ((o1 = off + 1032 ∧ o2 = off + (1032 + 20 * n) ∧ o3 = off + (1032 + 24 * n) ∧ o5 = off + (1032 + 28 * n)) ∧ (N1 + 1032 = N ∧ N2 + 1032 + 20 * n = N ∧ N3 + 1032 + 24 * n = N ∧ N5 + 1032 + 28 * n = N) ∧ (c1 + 1032 = c ∧ c2 + 1032 + 20 * n = c ∧ c3 + 1032 + 24 * n = c ∧ c5 + 1032 + 28 * n = c)) := by
                    have h1 := HO3.out
                    have h2 := HN3.out
                    have h3 := HC3.out
                    have h4 := HLC.out
                    have h5 := HW.out
                    refine ⟨⟨?_, ?_, ?_, ?_⟩, ⟨?_, ?_, ?_, ?_⟩, ?_, ?_, ?_, ?_⟩ <;> omega
                  clear ho1 hN1 hc1 ho2 hN2 hc2 ho5 hN5 hc5 hm1 hm2 HO3 HN3 HC3 e7 e8 t1
                  have hg1b := HC.out.blk
                  obtain ⟨g2, hg2⟩ : ∃ g, wr.heap.size = g := ⟨_, rfl⟩
                  rw [hg2] at hC5 ⊢
                  have HC41 := Lib.hid ((HC.out.alloc (.cells #[.slice none 0 0, .string ⟨#[]⟩, .int .i64 0] 45)).same (hg4.block g1 (by simp; omega) (fun e => by injection e with e; omega)))
                  have HO4 := Lib.hid ((HO.out.alloc (.cells #[.slice none 0 0, .string ⟨#[]⟩, .int .i64 0] 45)).kept hg4 (.inr fun e => by have := (HO.out.lt _ e).2; omega))
                  have HB4 := Lib.hid ((HBL.out.alloc HBL.out.size (.cells #[.slice none 0 0, .string ⟨#[]⟩, .int .i64 0] 45)).grown hg4 (by have := HBL.out.size; simp; omega) (fun j hj => by injection hj with hj; rw [← hj]; exact HBL.out.size))
                  have HC42 := Lib.hid hC5
                  have hg12 : g1 ≠ g2 := by omega
                  have HWG : Hid (w.heap.size ≤ g2) := by show _ ≤ _; rw [← hg2]; exact HBL.out.size
                  have HFW := HFN
                  clear hC4 hC5 hg4 hs4 hG2 HC HO HBL hg1b hg2
                  go_loopw [15, 16] (fun kv iv w9 => ∃ (i : Nat) (A5 : Option Addr) (cc5 : Nat), iv = .int .i64 i ∧ kv = .int .i64 (farN b n i) ∧ i ≤ n ∧ okToB b n i = true ∧ OwnS w9 w.heap.size 71 1 (.slice A 256 cc) 256 (fansV b 256) ∧ Cel w9 g1 45 3 (gotF (.slice none 0 0) ⟨#[]⟩ 0) ∧ Cel w9 g2 45 3 (gotF (.slice A5 i cc5) ⟨#[]⟩ 0) ∧ OwnS w9 w.heap.size 30 5 (.slice A5 i cc5) i (entsV b n i) ∧ Below w.heap.size w w9) (fun _ iv _ => n - (intOf iv).toNat)
                  case atStart => exact ⟨0, none, 0, rfl, rfl, Nat.zero_le _, rfl, HO4.out, HC41.out, HC42.out, OwnS.nil _ _ _ _, HB4.out⟩
                  case round =>
                    clear HO4 HC41 HC42 HB4
                    obtain ⟨i, A5, cc5, rfl, rfl, hin, hok, hO, hC1, hC2, hR, hBl⟩ := hrel
                    have HOK := Lib.hid hok
                    have HO := Lib.hid hO
                    have HC1 := Lib.hid hC1
                    have HC2 := Lib.hid hC2
                    have HR := Lib.hid hR
                    have HBL := Lib.hid hBl
                    have hf0 := farN_le b n i
                    obtain ⟨k, hk⟩ : ∃ k, farN b n i = k := ⟨_, rfl⟩
                    rw [hk] at hf0 ⊢
                    have HKN := Lib.hid hk
                    clear hok hO hC1 hC2 hR hBl hk
                    by_cases hlt : i < n
                    · have q1 : decide ((i : Int) < (n : Int)) = true := decide_eq_true (by omega)
                      have q1' : decide (i < n) = true := decide_eq_true hlt
                      obtain ⟨r1, hr1⟩ : ∃ r, 20 * i = r := ⟨_, rfl⟩
                      have hn4 := HN4.out
                      have s1 : IntKind.i64.wrap (20 * (i : Int)) = (r1 : Int) := by rw [IntWalk.i64_in _ (by omega)]; omega
                      have s2 : IntKind.i64.wrap ((r1 : Int) + 20) = ((r1 + 20 : Nat) : Int) := by rw [IntWalk.i64_in _ (by omega)]; omega
                      have hl1 : r1 + 20 ≤ N1 := by have h1 := HPL.out; have h2 := HW.out; omega
                      have hl2 : r1 + 20 ≤ c1 := by have h1 := HPL.out; have h2 := HW.out; have h3 := HLC.out; omega
                      have hl3 : ¬ c1 = r1 := by omega
                      have t20 : r1 + 20 - r1 = 20 := by omega
                      have kx : wr.cell? ⟨blk, o1 + r1, none⟩ = some (.int .u8 (b.getD (1032 + 20 * i) 0)) := by
                        have h0 : Ints .u8 wr (some ⟨blk, off, none⟩) b := HI.out.below HBL.out
                        obtain ⟨bJ, oJ, hAJ, _, hcJ⟩ := h0 (by rw [HN.out]; have := HLC.out; omega)
                        injection hAJ with hAJ
                        injection hAJ with z1 z2 _
                        subst z1; subst z2
                        have := hcJ (1032 + 20 * i) (by rw [HN.out]; have h2 := HW.out; omega)
                        rw [show o1 + r1 = off + (1032 + 20 * i) by have h1 := HPL.out; omega]
                        exact this
                      have hx0 := HB.out.at_ (1032 + 20 * i) (by rw [HN.out]; have h2 := HW.out; omega)
                      have HID : Hid (id0 b i = (b.getD (1032 + 20 * i) 0).toNat) := rfl
                      generalize b.getD (1032 + 20 * i) 0 = x0 at *
                      obtain ⟨q, rfl⟩ : ∃ q : Nat, x0 = q := ⟨x0.toNat, by omega⟩
                      have HID0 : Hid (id0 b i = q) := HID.out.trans (Int.toNat_natCast q)
                      have hq6 : q < 256 := by omega
                      have HR1 := Lib.hid hr1
                      clear HID hx0 hr1 hn4
                      obtain ⟨bf, of, rfl, hfc⟩ := fans_cell HO.out
                      have HFC := Lib.hid hfc
                      clear hfc
                      go_upto_if 117 with (fail)
                      go_cut [18] (fun v wx => v = .int .u64 (loV b q) ∧ wx = wr)
                      case first => as_aux_lemma =>
                        by_cases hq0 : q = 0
                        · have q3 : decide ((0 : Int) < (q : Int)) = false := decide_eq_false (by omega)
                          have q3' : decide (0 < q) = false := decide_eq_false (by omega)
                          have q3p : ¬ 0 < q := by omega
                          have HLO : Hid (loV b q = 0) := by show _ = _; unfold loV; rw [if_pos hq0]
                          clear hq0
                          go_wp2
                          go_meet
                          exact ⟨by rw [HLO.out], rfl⟩
                        · obtain ⟨r, hr⟩ : ∃ r : Nat, q = r + 1 := ⟨q - 1, by omega⟩
                          have q3 : decide ((0 : Int) < (q : Int)) = true := decide_eq_true (by omega)
                          have q3' : decide (0 < q) = true := decide_eq_true (by omega)
                          have q3p : 0 < q := by omega
                          have s11 : IntKind.u8.wrap ((q : Int) - 1) = (r : Int) := by rw [IntKind.wrap_u8']; omega
                          have hr6 : r < 256 := by omega
                          have kf := HFC.out r hr6
                          have HLO : Hid (loV b q = fan b r) := by show _ = _; unfold loV; rw [if_neg hq0, show q - 1 = r by omega]
                          clear hr hq0
                          go_wp2
                          go_meet
                          exact ⟨by rw [HLO.out], rfl⟩
                      case rest =>
                        obtain ⟨rfl, hw⟩ := hcut
                        obtain rfl : wr = wc := hw.symm
                        have kf := HFC.out q hq6
                        go_upto_region 41 with (fail)
                        rw [t20]
                        have HY0 : Hid (decide (fan b (id0 b i) ≤ (i : Int)) = decide (fan b q ≤ (i : Int))) := by show _ = _; rw [HID0.out]
                        have HZ0 : Hid ((decide (0 < id0 b i) && decide ((i : Int) < fan b (id0 b i - 1))) = decide ((i : Int) < loV b q)) := by show _ = _; rw [HID0.out]; exact lo_z b i q
                        have hfqb := fan_bd HB.out q
                        have hlob : 0 ≤ loV b q := by unfold loV; split; exact Int.le_refl 0; exact (fan_bd HB.out _).1
                        obtain ⟨FQ, hFQ⟩ : ∃ v, fan b q = v := ⟨_, rfl⟩
                        obtain ⟨LO, hLO⟩ : ∃ v, loV b q = v := ⟨_, rfl⟩
                        have HY : Hid (decide (fan b (id0 b i) ≤ (i : Int)) = decide (FQ ≤ (i : Int))) := by rw [hFQ] at HY0; exact HY0
                        have HZ : Hid ((decide (0 < id0 b i) && decide ((i : Int) < fan b (id0 b i - 1))) = decide ((i : Int) < LO)) := by rw [hLO] at HZ0; exact HZ0
                        rw [hFQ] at kf
                        rw [hLO]
                        have KF := Lib.hid kf
                        have KX := Lib.hid kx
                        have HCC : Hid (∀ W, W = wr.drew → (convert 24 9 (.slice (some ⟨blk, o1 + r1, none⟩) 20 (c1 - r1))).run Try.prog W = .ok (.string (strOfNums (idL b i))) W) := fun W hW => by
                          have h1 := HPL.out
                          have h0 : Ints .u8 W (some ⟨blk, off, none⟩) b := by rw [hW]; exact (HI.out.below HBL.out).drew
                          have h2 := (h0.drop (1032 + 20 * i)).take 20
                          have hl := idL_len (b := b) (i := i) (n := n) (by rw [HN.out, HW.out]; omega) hlt
                          have := run_str_ints (P := Try.prog) (w := W) 24 9 5 Try.underlying24 Try.underlying5 Try.underlying9 (some ⟨blk, o1 + r1, none⟩) (c1 - r1) (idL b i) (by rw [show o1 + r1 = off + (1032 + 20 * i) by have := HR1.out; omega]; exact h2)
                          rw [hl] at this
                          exact this
                        have s13 : IntKind.u64.wrap (i : Int) = (i : Int) := by rw [IntKind.wrap_u64]; have := HN4.out; omega
                        clear HY0 HZ0 hFQ hLO kf kx
                        go_cut [156] (fun v wx => v = .bool (badO b i) ∧ wx = wr.drew)
                        case first => as_aux_lemma =>
                          by_cases hi0 : i = 0
                          · have q5 : decide ((0 : Int) < (i : Int)) = false := decide_eq_false (by omega)
                            have q5' : decide (0 < i) = false := decide_eq_false (by omega)
                            have q5p : ¬ 0 < i := by omega
                            have HX : Hid ((decide (0 < i) && !ltL (idL b (i - 1)) (idL b i)) = false) := by show _ = _; rw [q5']; rfl
                            clear hi0
                            by_cases hz : (i : Int) < LO
                            · have q4 : decide ((i : Int) < LO) = true := decide_eq_true hz
                              have HBO : Hid (badO b i = true) := by
                                show _ = _
                                rw [badO_eval (b := b) (i := i) HX.out HY.out (HZ.out.trans q4)]
                                cases decide (FQ ≤ (i : Int)) <;> rfl
                              clear hz
                              go_wp2
                              refine wp_region_ph (by kernel_rfl) [] [.span 0 0, .span 0 0, .span 0 0, .span 0 0, .span 0 0, .span 0 0, .span 0 0, .span 0 0, .span 0 0, .span 0 0, .span 0 0, .span 0 0, .span 0 0, .span 0 0, .span 0 0, .span 0 0, .span 0 0, .span 0 0, .span 0 0, .span 0 0, .span 0 0, .span 0 0, .span 0 0, .span 0 0, .span 0 0, .span 0 0, .span 0 0, .span 0 0, .span 0 0, .span 0 0, .span 0 0, .span 0 0] [fun z9 => z9 = .int .i64 (i : Int), fun z9 => z9 = .bool false, fun z9 => z9 = .bool false, fun z9 => z9 = undef, fun z9 => z9 = undef, fun z9 => z9 = undef, fun z9 => z9 = undef, fun z9 => z9 = undef, fun z9 => z9 = undef, fun z9 => z9 = undef, fun z9 => z9 = undef, fun z9 => z9 = undef, fun z9 => z9 = undef, fun z9 => z9 = undef, fun z9 => z9 = .bool false, fun z9 => z9 = .bool false, fun z9 => z9 = .int .i64 (i : Int), fun z9 => z9 = .int .u64 (i : Int), fun z9 => z9 = .int .u64 LO, fun z9 => z9 = .bool true, fun z9 => z9 = .bool true, fun z9 => z9 = .bool true, fun z9 => z9 = undef, fun z9 => z9 = undef, fun z9 => z9 = undef, fun z9 => z9 = undef, fun z9 => z9 = undef, fun z9 => z9 = undef, fun z9 => z9 = undef, fun z9 => z9 = undef, fun z9 => z9 = undef, fun z9 => z9 = .bool true] ((fun _ w => w = wr.drew)) (by kernel_rfl) (by kernel_rfl) (by kernel_rfl) (by kernel_rfl) (by kernel_rfl) (by kernel_rfl) rfl rfl (rfl) ?steps ?done
                              case steps =>
                                refine ⟨?_, ?_, ?_, ?_, ?_, ?_, ?_, ?_, ?_, ?_, ?_, ?_, ?_, ?_, ?_, ?_, ?_, ?_, ?_, ?_, ?_, ?_, ?_, ?_, ?_, ?_, ?_, ?_, ?_, ?_, ?_, ?_, trivial⟩
                                · intro us au w1 k0 hlo hhi ha hd hst hI
                                  obtain rfl : k0 = 0 := by omega
                                  have q16 := slot_far (t := 16) (v := .int .i64 (i : Int)) ha (by kernel_rfl) (by kernel_rfl)
                                  have p16 := slot_norm q16
                                  clear ha hd hst
                                  exact StepI.pure (v := .int .i64 (i : Int)) rfl rfl (by go_simp) ⟨rfl, hI⟩
                                · intro us au w1 k1 hlo hhi ha hd hst hI
                                  obtain rfl : k1 = 0 := by omega
                                  have e0 := hd 0 _ (by kernel_rfl) rfl
                                  have q125 := slot_at (t := 125) 0 ha (by kernel_rfl) (by kernel_rfl) (by kernel_rfl) e0
                                  have p125 := slot_norm q125
                                  clear ha hd hst
                                  exact StepI.pure (v := .bool false) rfl rfl (by go_simp) ⟨rfl, hI⟩
                                · intro us au w1 k2 hlo hhi ha hd hst hI
                                  obtain rfl : k2 = 0 := by omega
                                  have e1 := hd 1 _ (by kernel_rfl) rfl
                                  have q126 := slot_at (t := 126) 1 ha (by kernel_rfl) (by kernel_rfl) (by kernel_rfl) e1
                                  have p126 := slot_norm q126
                                  clear ha hd hst
                                  exact StepI.pure (v := .bool false) rfl rfl (by go_simp) ⟨rfl, hI⟩
                                · intro us au w1 k3 hlo hhi ha hd hst hI
                                  obtain rfl : k3 = 0 := by omega
                                  have e2 := hd 2 _ (by kernel_rfl) rfl
                                  have hg := slot_at (t := 127) 2 ha (by kernel_rfl) (by kernel_rfl) (by kernel_rfl) e2
                                  exact StepI.skip rfl (unwanted_at rfl rfl hg rfl) ⟨rfl, hI⟩
                                · intro us au w1 k4 hlo hhi ha hd hst hI
                                  obtain rfl : k4 = 0 := by omega
                                  have e2 := hd 2 _ (by kernel_rfl) rfl
                                  have hg := slot_at (t := 127) 2 ha (by kernel_rfl) (by kernel_rfl) (by kernel_rfl) e2
                                  exact StepI.skip rfl (unwanted_at rfl rfl hg rfl) ⟨rfl, hI⟩
                                · intro us au w1 k5 hlo hhi ha hd hst hI
                                  obtain rfl : k5 = 0 := by omega
                                  have e2 := hd 2 _ (by kernel_rfl) rfl
                                  have hg := slot_at (t := 127) 2 ha (by kernel_rfl) (by kernel_rfl) (by kernel_rfl) e2
                                  exact StepI.skip rfl (unwanted_at rfl rfl hg rfl) ⟨rfl, hI⟩
                                · intro us au w1 k6 hlo hhi ha hd hst hI
                                  obtain rfl : k6 = 0 := by omega
                                  have e2 := hd 2 _ (by kernel_rfl) rfl
                                  have hg := slot_at (t := 127) 2 ha (by kernel_rfl) (by kernel_rfl) (by kernel_rfl) e2
                                  exact StepI.skip rfl (unwanted_at rfl rfl hg rfl) ⟨rfl, hI⟩
                                · intro us au w1 k7 hlo hhi ha hd hst hI
                                  obtain rfl : k7 = 0 := by omega
                                  have e2 := hd 2 _ (by kernel_rfl) rfl
                                  have hg := slot_at (t := 127) 2 ha (by kernel_rfl) (by kernel_rfl) (by kernel_rfl) e2
                                  exact StepI.skip rfl (unwanted_at rfl rfl hg rfl) ⟨rfl, hI⟩
                                · intro us au w1 k8 hlo hhi ha hd hst hI
                                  obtain rfl : k8 = 0 := by omega
                                  have e2 := hd 2 _ (by kernel_rfl) rfl
                                  have hg := slot_at (t := 127) 2 ha (by kernel_rfl) (by kernel_rfl) (by kernel_rfl) e2
                                  exact StepI.skip rfl (unwanted_at rfl rfl hg rfl) ⟨rfl, hI⟩
                                · intro us au w1 k9 hlo hhi ha hd hst hI
                                  obtain rfl : k9 = 0 := by omega
                                  have e2 := hd 2 _ (by kernel_rfl) rfl
                                  have hg := slot_at (t := 127) 2 ha (by kernel_rfl) (by kernel_rfl) (by kernel_rfl) e2
                                  exact StepI.skip rfl (unwanted_at rfl rfl hg rfl) ⟨rfl, hI⟩
                                · intro us au w1 k10 hlo hhi ha hd hst hI
                                  obtain rfl : k10 = 0 := by omega
                                  have e2 := hd 2 _ (by kernel_rfl) rfl
                                  have hg := slot_at (t := 127) 2 ha (by kernel_rfl) (by kernel_rfl) (by kernel_rfl) e2
                                  exact StepI.skip rfl (unwanted_at rfl rfl hg rfl) ⟨rfl, hI⟩
                                · intro us au w1 k11 hlo hhi ha hd hst hI
                                  obtain rfl : k11 = 0 := by omega
                                  have e2 := hd 2 _ (by kernel_rfl) rfl
                                  have hg := slot_at (t := 127) 2 ha (by kernel_rfl) (by kernel_rfl) (by kernel_rfl) e2
                                  exact StepI.skip rfl (unwanted_at rfl rfl hg rfl) ⟨rfl, hI⟩
                                · intro us au w1 k12 hlo hhi ha hd hst hI
                                  obtain rfl : k12 = 0 := by omega
                                  have e2 := hd 2 _ (by kernel_rfl) rfl
                                  have hg := slot_at (t := 127) 2 ha (by kernel_rfl) (by kernel_rfl) (by kernel_rfl) e2
                                  exact StepI.skip rfl (unwanted_at rfl rfl hg rfl) ⟨rfl, hI⟩
                                · intro us au w1 k13 hlo hhi ha hd hst hI
                                  obtain rfl : k13 = 0 := by omega
                                  have e2 := hd 2 _ (by kernel_rfl) rfl
                                  have hg := slot_at (t := 127) 2 ha (by kernel_rfl) (by kernel_rfl) (by kernel_rfl) e2
                                  exact StepI.skip rfl (unwanted_at rfl rfl hg rfl) ⟨rfl, hI⟩
                                · intro us au w1 k14 hlo hhi ha hd hst hI
                                  obtain rfl : k14 = 0 := by omega
                                  have e2 := hd 2 _ (by kernel_rfl) rfl
                                  have e13 := hd 13 _ (by kernel_rfl) rfl
                                  have q127 := slot_at (t := 127) 2 ha (by kernel_rfl) (by kernel_rfl) (by kernel_rfl) e2
                                  have p127 := slot_norm q127
                                  have q138 := slot_at (t := 138) 13 ha (by kernel_rfl) (by kernel_rfl) (by kernel_rfl) e13
                                  have p138 := slot_norm q138
                                  clear ha hd hst
                                  exact StepI.pure (v := .bool false) rfl rfl (by go_simp) ⟨rfl, hI⟩
                                · intro us au w1 k15 hlo hhi ha hd hst hI
                                  obtain rfl : k15 = 0 := by omega
                                  have e14 := hd 14 _ (by kernel_rfl) rfl
                                  have q139 := slot_at (t := 139) 14 ha (by kernel_rfl) (by kernel_rfl) (by kernel_rfl) e14
                                  have p139 := slot_norm q139
                                  clear ha hd hst
                                  exact StepI.pure (v := .bool false) rfl rfl (by go_simp) ⟨rfl, hI⟩
                                · intro us au w1 k16 hlo hhi ha hd hst hI
                                  obtain rfl : k16 = 0 := by omega
                                  have e15 := hd 15 _ (by kernel_rfl) rfl
                                  have q16 := slot_far (t := 16) (v := .int .i64 (i : Int)) ha (by kernel_rfl) (by kernel_rfl)
                                  have p16 := slot_norm q16
                                  have hg := slot_at (t := 140) 15 ha (by kernel_rfl) (by kernel_rfl) (by kernel_rfl) e15
                                  clear ha hd hst
                                  exact StepI.pure (v := .int .i64 (i : Int)) rfl (wanted_at rfl rfl hg) (by go_simp) ⟨rfl, hI⟩
                                · intro us au w1 k17 hlo hhi ha hd hst hI
                                  obtain rfl : k17 = 0 := by omega
                                  have e16 := hd 16 _ (by kernel_rfl) rfl
                                  have e15 := hd 15 _ (by kernel_rfl) rfl
                                  have q141 := slot_at (t := 141) 16 ha (by kernel_rfl) (by kernel_rfl) (by kernel_rfl) e16
                                  have p141 := slot_norm q141
                                  have hg := slot_at (t := 140) 15 ha (by kernel_rfl) (by kernel_rfl) (by kernel_rfl) e15
                                  clear ha hd hst
                                  exact StepI.pure (v := .int .u64 (i : Int)) rfl (wanted_at rfl rfl hg) (by go_simp) ⟨rfl, hI⟩
                                · intro us au w1 k18 hlo hhi ha hd hst hI
                                  obtain rfl : k18 = 0 := by omega
                                  have e15 := hd 15 _ (by kernel_rfl) rfl
                                  have q18 := slot_far (t := 18) (v := .int .u64 LO) ha (by kernel_rfl) (by kernel_rfl)
                                  have p18 := slot_norm q18
                                  have hg := slot_at (t := 140) 15 ha (by kernel_rfl) (by kernel_rfl) (by kernel_rfl) e15
                                  clear ha hd hst
                                  exact StepI.pure (v := .int .u64 LO) rfl (wanted_at rfl rfl hg) (by go_simp) ⟨rfl, hI⟩
                                · intro us au w1 k19 hlo hhi ha hd hst hI
                                  obtain rfl : k19 = 0 := by omega
                                  have e17 := hd 17 _ (by kernel_rfl) rfl
                                  have e18 := hd 18 _ (by kernel_rfl) rfl
                                  have e15 := hd 15 _ (by kernel_rfl) rfl
                                  have q142 := slot_at (t := 142) 17 ha (by kernel_rfl) (by kernel_rfl) (by kernel_rfl) e17
                                  have p142 := slot_norm q142
                                  have q143 := slot_at (t := 143) 18 ha (by kernel_rfl) (by kernel_rfl) (by kernel_rfl) e18
                                  have p143 := slot_norm q143
                                  have hg := slot_at (t := 140) 15 ha (by kernel_rfl) (by kernel_rfl) (by kernel_rfl) e15
                                  clear ha hd hst
                                  exact StepI.pure (v := .bool true) rfl (wanted_at rfl rfl hg) (by go_simp) ⟨rfl, hI⟩
                                · intro us au w1 k20 hlo hhi ha hd hst hI
                                  obtain rfl : k20 = 0 := by omega
                                  have e15 := hd 15 _ (by kernel_rfl) rfl
                                  have e19 := hd 19 _ (by kernel_rfl) rfl
                                  have q140 := slot_at (t := 140) 15 ha (by kernel_rfl) (by kernel_rfl) (by kernel_rfl) e15
                                  have p140 := slot_norm q140
                                  have q144 := slot_at (t := 144) 19 ha (by kernel_rfl) (by kernel_rfl) (by kernel_rfl) e19
                                  have p144 := slot_norm q144
                                  clear ha hd hst
                                  exact StepI.pure (v := .bool true) rfl rfl (by go_simp) ⟨rfl, hI⟩
                                · intro us au w1 k21 hlo hhi ha hd hst hI
                                  obtain rfl : k21 = 0 := by omega
                                  have e20 := hd 20 _ (by kernel_rfl) rfl
                                  have q145 := slot_at (t := 145) 20 ha (by kernel_rfl) (by kernel_rfl) (by kernel_rfl) e20
                                  have p145 := slot_norm q145
                                  clear ha hd hst
                                  exact StepI.pure (v := .bool true) rfl rfl (by go_simp) ⟨rfl, hI⟩
                                · intro us au w1 k22 hlo hhi ha hd hst hI
                                  obtain rfl : k22 = 0 := by omega
                                  have e21 := hd 21 _ (by kernel_rfl) rfl
                                  have hg := slot_at (t := 146) 21 ha (by kernel_rfl) (by kernel_rfl) (by kernel_rfl) e21
                                  exact StepI.skip rfl (unwanted_at rfl rfl hg rfl) ⟨rfl, hI⟩
                                · intro us au w1 k23 hlo hhi ha hd hst hI
                                  obtain rfl : k23 = 0 := by omega
                                  have e21 := hd 21 _ (by kernel_rfl) rfl
                                  have hg := slot_at (t := 146) 21 ha (by kernel_rfl) (by kernel_rfl) (by kernel_rfl) e21
                                  exact StepI.skip rfl (unwanted_at rfl rfl hg rfl) ⟨rfl, hI⟩
                                · intro us au w1 k24 hlo hhi ha hd hst hI
                                  obtain rfl : k24 = 0 := by omega
                                  have e21 := hd 21 _ (by kernel_rfl) rfl
                                  have hg := slot_at (t := 146) 21 ha (by kernel_rfl) (by kernel_rfl) (by kernel_rfl) e21
                                  exact StepI.skip rfl (unwanted_at rfl rfl hg rfl) ⟨rfl, hI⟩
                                · intro us au w1 k25 hlo hhi ha hd hst hI
                                  obtain rfl : k25 = 0 := by omega
                                  have e21 := hd 21 _ (by kernel_rfl) rfl
                                  have hg := slot_at (t := 146) 21 ha (by kernel_rfl) (by kernel_rfl) (by kernel_rfl) e21
                                  exact StepI.skip rfl (unwanted_at rfl rfl hg rfl) ⟨rfl, hI⟩
                                · intro us au w1 k26 hlo hhi ha hd hst hI
                                  obtain rfl : k26 = 0 := by omega
                                  have e21 := hd 21 _ (by kernel_rfl) rfl
                                  have hg := slot_at (t := 146) 21 ha (by kernel_rfl) (by kernel_rfl) (by kernel_rfl) e21
                                  exact StepI.skip rfl (unwanted_at rfl rfl hg rfl) ⟨rfl, hI⟩
                                · intro us au w1 k27 hlo hhi ha hd hst hI
                                  obtain rfl : k27 = 0 := by omega
                                  have e21 := hd 21 _ (by kernel_rfl) rfl
                                  have hg := slot_at (t := 146) 21 ha (by kernel_rfl) (by kernel_rfl) (by kernel_rfl) e21
                                  exact StepI.skip rfl (unwanted_at rfl rfl hg rfl) ⟨rfl, hI⟩
                                · intro us au w1 k28 hlo hhi ha hd hst hI
                                  obtain rfl : k28 = 0 := by omega
                                  have e21 := hd 21 _ (by kernel_rfl) rfl
                                  have hg := slot_at (t := 146) 21 ha (by kernel_rfl) (by kernel_rfl) (by kernel_rfl) e21
                                  exact StepI.skip rfl (unwanted_at rfl rfl hg rfl) ⟨rfl, hI⟩
                                · intro us au w1 k29 hlo hhi ha hd hst hI
                                  obtain rfl : k29 = 0 := by omega
                                  have e21 := hd 21 _ (by kernel_rfl) rfl
                                  have hg := slot_at (t := 146) 21 ha (by kernel_rfl) (by kernel_rfl) (by kernel_rfl) e21
                                  exact StepI.skip rfl (unwanted_at rfl rfl hg rfl) ⟨rfl, hI⟩
                                · intro us au w1 k30 hlo hhi ha hd hst hI
                                  obtain rfl : k30 = 0 := by omega
                                  have e21 := hd 21 _ (by kernel_rfl) rfl
                                  have hg := slot_at (t := 146) 21 ha (by kernel_rfl) (by kernel_rfl) (by kernel_rfl) e21
                                  exact StepI.skip rfl (unwanted_at rfl rfl hg rfl) ⟨rfl, hI⟩
                                · intro us au w1 k31 hlo hhi ha hd hst hI
                                  obtain rfl : k31 = 0 := by omega
                                  have e21 := hd 21 _ (by kernel_rfl) rfl
                                  have e30 := hd 30 _ (by kernel_rfl) rfl
                                  have q146 := slot_at (t := 146) 21 ha (by kernel_rfl) (by kernel_rfl) (by kernel_rfl) e21
                                  have p146 := slot_norm q146
                                  have q155 := slot_at (t := 155) 30 ha (by kernel_rfl) (by kernel_rfl) (by kernel_rfl) e30
                                  have p155 := slot_norm q155
                                  clear ha hd hst
                                  exact StepI.pure (v := .bool true) rfl rfl (by go_simp) ⟨rfl, hI⟩
                              case done =>
                                intro us w1 hI hd
                                have e31 := hd 31 _ (by decide) rfl
                                have E31 := Lib.hid e31
                                have HI9 := Lib.hid hI
                                clear hd e31 hI
                                simp only [putAll]
                                go_simp
                                go_wp2
                                go_meet
                                exact ⟨by rw [E31.out, HBO.out]; first | done | rfl, HI9.out⟩
                            · have q4 : decide ((i : Int) < LO) = false := decide_eq_false hz
                              have HBO : Hid (badO b i = decide (FQ ≤ (i : Int))) := by
                                show _ = _
                                rw [badO_eval (b := b) (i := i) HX.out HY.out (HZ.out.trans q4)]
                                cases decide (FQ ≤ (i : Int)) <;> rfl
                              clear hz
                              go_wp2
                              refine wp_region_ph (by kernel_rfl) [] [.span 0 0, .span 0 0, .span 0 0, .span 0 0, .span 0 0, .span 0 0, .span 0 0, .span 0 0, .span 0 0, .span 0 0, .span 0 0, .span 0 0, .span 0 0, .span 0 0, .span 0 0, .span 0 0, .span 0 0, .span 0 0, .span 0 0, .span 0 0, .span 0 0, .span 0 0, .span 0 0, .span 0 0, .span 0 0, .span 0 0, .span 0 0, .span 0 0, .span 0 0, .span 0 0, .span 0 0, .span 0 0] [fun z9 => z9 = .int .i64 (i : Int), fun z9 => z9 = .bool false, fun z9 => z9 = .bool false, fun z9 => z9 = undef, fun z9 => z9 = undef, fun z9 => z9 = undef, fun z9 => z9 = undef, fun z9 => z9 = undef, fun z9 => z9 = undef, fun z9 => z9 = undef, fun z9 => z9 = undef, fun z9 => z9 = undef, fun z9 => z9 = undef, fun z9 => z9 = undef, fun z9 => z9 = .bool false, fun z9 => z9 = .bool false, fun z9 => z9 = .int .i64 (i : Int), fun z9 => z9 = .int .u64 (i : Int), fun z9 => z9 = .int .u64 LO, fun z9 => z9 = .bool false, fun z9 => z9 = .bool false, fun z9 => z9 = .bool false, fun z9 => z9 = .int .i64 (i : Int), fun z9 => z9 = .int .u64 (i : Int), fun z9 => z9 = .slice (some ⟨bf, of, none⟩) 256 cc, fun z9 => z9 = .slice (some ⟨blk, o1 + r1, none⟩) 20 (c1 - r1), fun z9 => z9 = .pointer (some ⟨blk, o1 + r1, none⟩), fun z9 => z9 = .int .u8 (q : Int), fun z9 => z9 = .pointer (some ⟨bf, of + q, none⟩), fun z9 => z9 = .int .u64 FQ, fun z9 => z9 = .bool (decide (FQ ≤ (i : Int))), fun z9 => z9 = .bool (decide (FQ ≤ (i : Int)))] ((fun _ w => w = wr.drew)) (by kernel_rfl) (by kernel_rfl) (by kernel_rfl) (by kernel_rfl) (by kernel_rfl) (by kernel_rfl) rfl rfl (rfl) ?steps ?done
                              case steps =>
                                refine ⟨?_, ?_, ?_, ?_, ?_, ?_, ?_, ?_, ?_, ?_, ?_, ?_, ?_, ?_, ?_, ?_, ?_, ?_, ?_, ?_, ?_, ?_, ?_, ?_, ?_, ?_, ?_, ?_, ?_, ?_, ?_, ?_, trivial⟩
                                · intro us au w1 k0 hlo hhi ha hd hst hI
                                  obtain rfl : k0 = 0 := by omega
                                  have q16 := slot_far (t := 16) (v := .int .i64 (i : Int)) ha (by kernel_rfl) (by kernel_rfl)
                                  have p16 := slot_norm q16
                                  clear ha hd hst
                                  exact StepI.pure (v := .int .i64 (i : Int)) rfl rfl (by go_simp) ⟨rfl, hI⟩
                                · intro us au w1 k1 hlo hhi ha hd hst hI
                                  obtain rfl : k1 = 0 := by omega
                                  have e0 := hd 0 _ (by kernel_rfl) rfl
                                  have q125 := slot_at (t := 125) 0 ha (by kernel_rfl) (by kernel_rfl) (by kernel_rfl) e0
                                  have p125 := slot_norm q125
                                  clear ha hd hst
                                  exact StepI.pure (v := .bool false) rfl rfl (by go_simp) ⟨rfl, hI⟩
                                · intro us au w1 k2 hlo hhi ha hd hst hI
                                  obtain rfl : k2 = 0 := by omega
                                  have e1 := hd 1 _ (by kernel_rfl) rfl
                                  have q126 := slot_at (t := 126) 1 ha (by kernel_rfl) (by kernel_rfl) (by kernel_rfl) e1
                                  have p126 := slot_norm q126
                                  clear ha hd hst
                                  exact StepI.pure (v := .bool false) rfl rfl (by go_simp) ⟨rfl, hI⟩
                                · intro us au w1 k3 hlo hhi ha hd hst hI
                                  obtain rfl : k3 = 0 := by omega
                                  have e2 := hd 2 _ (by kernel_rfl) rfl
                                  have hg := slot_at (t := 127) 2 ha (by kernel_rfl) (by kernel_rfl) (by kernel_rfl) e2
                                  exact StepI.skip rfl (unwanted_at rfl rfl hg rfl) ⟨rfl, hI⟩
                                · intro us au w1 k4 hlo hhi ha hd hst hI
                                  obtain rfl : k4 = 0 := by omega
                                  have e2 := hd 2 _ (by kernel_rfl) rfl
                                  have hg := slot_at (t := 127) 2 ha (by kernel_rfl) (by kernel_rfl) (by kernel_rfl) e2
                                  exact StepI.skip rfl (unwanted_at rfl rfl hg rfl) ⟨rfl, hI⟩
                                · intro us au w1 k5 hlo hhi ha hd hst hI
                                  obtain rfl : k5 = 0 := by omega
                                  have e2 := hd 2 _ (by kernel_rfl) rfl
                                  have hg := slot_at (t := 127) 2 ha (by kernel_rfl) (by kernel_rfl) (by kernel_rfl) e2
                                  exact StepI.skip rfl (unwanted_at rfl rfl hg rfl) ⟨rfl, hI⟩
                                · intro us au w1 k6 hlo hhi ha hd hst hI
                                  obtain rfl : k6 = 0 := by omega
                                  have e2 := hd 2 _ (by kernel_rfl) rfl
                                  have hg := slot_at (t := 127) 2 ha (by kernel_rfl) (by kernel_rfl) (by kernel_rfl) e2
                                  exact StepI.skip rfl (unwanted_at rfl rfl hg rfl) ⟨rfl, hI⟩
                                · intro us au w1 k7 hlo hhi ha hd hst hI
                                  obtain rfl : k7 = 0 := by omega
                                  have e2 := hd 2 _ (by kernel_rfl) rfl
                                  have hg := slot_at (t := 127) 2 ha (by kernel_rfl) (by kernel_rfl) (by kernel_rfl) e2
                                  exact StepI.skip rfl (unwanted_at rfl rfl hg rfl) ⟨rfl, hI⟩
                                · intro us au w1 k8 hlo hhi ha hd hst hI
                                  obtain rfl : k8 = 0 := by omega
                                  have e2 := hd 2 _ (by kernel_rfl) rfl
                                  have hg := slot_at (t := 127) 2 ha (by kernel_rfl) (by kernel_rfl) (by kernel_rfl) e2
                                  exact StepI.skip rfl (unwanted_at rfl rfl hg rfl) ⟨rfl, hI⟩
                                · intro us au w1 k9 hlo hhi ha hd hst hI
                                  obtain rfl : k9 = 0 := by omega
                                  have e2 := hd 2 _ (by kernel_rfl) rfl
                                  have hg := slot_at (t := 127) 2 ha (by kernel_rfl) (by kernel_rfl) (by kernel_rfl) e2
                                  exact StepI.skip rfl (unwanted_at rfl rfl hg rfl) ⟨rfl, hI⟩
                                · intro us au w1 k10 hlo hhi ha hd hst hI
                                  obtain rfl : k10 = 0 := by omega
                                  have e2 := hd 2 _ (by kernel_rfl) rfl
                                  have hg := slot_at (t := 127) 2 ha (by kernel_rfl) (by kernel_rfl) (by kernel_rfl) e2
                                  exact StepI.skip rfl (unwanted_at rfl rfl hg rfl) ⟨rfl, hI⟩
                                · intro us au w1 k11 hlo hhi ha hd hst hI
                                  obtain rfl : k11 = 0 := by omega
                                  have e2 := hd 2 _ (by kernel_rfl) rfl
                                  have hg := slot_at (t := 127) 2 ha (by kernel_rfl) (by kernel_rfl) (by kernel_rfl) e2
                                  exact StepI.skip rfl (unwanted_at rfl rfl hg rfl) ⟨rfl, hI⟩
                                · intro us au w1 k12 hlo hhi ha hd hst hI
                                  obtain rfl : k12 = 0 := by omega
                                  have e2 := hd 2 _ (by kernel_rfl) rfl
                                  have hg := slot_at (t := 127) 2 ha (by kernel_rfl) (by kernel_rfl) (by kernel_rfl) e2
                                  exact StepI.skip rfl (unwanted_at rfl rfl hg rfl) ⟨rfl, hI⟩
                                · intro us au w1 k13 hlo hhi ha hd hst hI
                                  obtain rfl : k13 = 0 := by omega
                                  have e2 := hd 2 _ (by kernel_rfl) rfl
                                  have hg := slot_at (t := 127) 2 ha (by kernel_rfl) (by kernel_rfl) (by kernel_rfl) e2
                                  exact StepI.skip rfl (unwanted_at rfl rfl hg rfl) ⟨rfl, hI⟩
                                · intro us au w1 k14 hlo hhi ha hd hst hI
                                  obtain rfl : k14 = 0 := by omega
                                  have e2 := hd 2 _ (by kernel_rfl) rfl
                                  have e13 := hd 13 _ (by kernel_rfl) rfl
                                  have q127 := slot_at (t := 127) 2 ha (by kernel_rfl) (by kernel_rfl) (by kernel_rfl) e2
                                  have p127 := slot_norm q127
                                  have q138 := slot_at (t := 138) 13 ha (by kernel_rfl) (by kernel_rfl) (by kernel_rfl) e13
                                  have p138 := slot_norm q138
                                  clear ha hd hst
                                  exact StepI.pure (v := .bool false) rfl rfl (by go_simp) ⟨rfl, hI⟩
                                · intro us au w1 k15 hlo hhi ha hd hst hI
                                  obtain rfl : k15 = 0 := by omega
                                  have e14 := hd 14 _ (by kernel_rfl) rfl
                                  have q139 := slot_at (t := 139) 14 ha (by kernel_rfl) (by kernel_rfl) (by kernel_rfl) e14
                                  have p139 := slot_norm q139
                                  clear ha hd hst
                                  exact StepI.pure (v := .bool false) rfl rfl (by go_simp) ⟨rfl, hI⟩
                                · intro us au w1 k16 hlo hhi ha hd hst hI
                                  obtain rfl : k16 = 0 := by omega
                                  have e15 := hd 15 _ (by kernel_rfl) rfl
                                  have q16 := slot_far (t := 16) (v := .int .i64 (i : Int)) ha (by kernel_rfl) (by kernel_rfl)
                                  have p16 := slot_norm q16
                                  have hg := slot_at (t := 140) 15 ha (by kernel_rfl) (by kernel_rfl) (by kernel_rfl) e15
                                  clear ha hd hst
                                  exact StepI.pure (v := .int .i64 (i : Int)) rfl (wanted_at rfl rfl hg) (by go_simp) ⟨rfl, hI⟩
                                · intro us au w1 k17 hlo hhi ha hd hst hI
                                  obtain rfl : k17 = 0 := by omega
                                  have e16 := hd 16 _ (by kernel_rfl) rfl
                                  have e15 := hd 15 _ (by kernel_rfl) rfl
                                  have q141 := slot_at (t := 141) 16 ha (by kernel_rfl) (by kernel_rfl) (by kernel_rfl) e16
                                  have p141 := slot_norm q141
                                  have hg := slot_at (t := 140) 15 ha (by kernel_rfl) (by kernel_rfl) (by kernel_rfl) e15
                                  clear ha hd hst
                                  exact StepI.pure (v := .int .u64 (i : Int)) rfl (wanted_at rfl rfl hg) (by go_simp) ⟨rfl, hI⟩
                                · intro us au w1 k18 hlo hhi ha hd hst hI
                                  obtain rfl : k18 = 0 := by omega
                                  have e15 := hd 15 _ (by kernel_rfl) rfl
                                  have q18 := slot_far (t := 18) (v := .int .u64 LO) ha (by kernel_rfl) (by kernel_rfl)
                                  have p18 := slot_norm q18
                                  have hg := slot_at (t := 140) 15 ha (by kernel_rfl) (by kernel_rfl) (by kernel_rfl) e15
                                  clear ha hd hst
                                  exact StepI.pure (v := .int .u64 LO) rfl (wanted_at rfl rfl hg) (by go_simp) ⟨rfl, hI⟩
                                · intro us au w1 k19 hlo hhi ha hd hst hI
                                  obtain rfl : k19 = 0 := by omega
                                  have e17 := hd 17 _ (by kernel_rfl) rfl
                                  have e18 := hd 18 _ (by kernel_rfl) rfl
                                  have e15 := hd 15 _ (by kernel_rfl) rfl
                                  have q142 := slot_at (t := 142) 17 ha (by kernel_rfl) (by kernel_rfl) (by kernel_rfl) e17
                                  have p142 := slot_norm q142
                                  have q143 := slot_at (t := 143) 18 ha (by kernel_rfl) (by kernel_rfl) (by kernel_rfl) e18
                                  have p143 := slot_norm q143
                                  have hg := slot_at (t := 140) 15 ha (by kernel_rfl) (by kernel_rfl) (by kernel_rfl) e15
                                  clear ha hd hst
                                  exact StepI.pure (v := .bool false) rfl (wanted_at rfl rfl hg) (by go_simp) ⟨rfl, hI⟩
                                · intro us au w1 k20 hlo hhi ha hd hst hI
                                  obtain rfl : k20 = 0 := by omega
                                  have e15 := hd 15 _ (by kernel_rfl) rfl
                                  have e19 := hd 19 _ (by kernel_rfl) rfl
                                  have q140 := slot_at (t := 140) 15 ha (by kernel_rfl) (by kernel_rfl) (by kernel_rfl) e15
                                  have p140 := slot_norm q140
                                  have q144 := slot_at (t := 144) 19 ha (by kernel_rfl) (by kernel_rfl) (by kernel_rfl) e19
                                  have p144 := slot_norm q144
                                  clear ha hd hst
                                  exact StepI.pure (v := .bool false) rfl rfl (by go_simp) ⟨rfl, hI⟩
                                · intro us au w1 k21 hlo hhi ha hd hst hI
                                  obtain rfl : k21 = 0 := by omega
                                  have e20 := hd 20 _ (by kernel_rfl) rfl
                                  have q145 := slot_at (t := 145) 20 ha (by kernel_rfl) (by kernel_rfl) (by kernel_rfl) e20
                                  have p145 := slot_norm q145
                                  clear ha hd hst
                                  exact StepI.pure (v := .bool false) rfl rfl (by go_simp) ⟨rfl, hI⟩
                                · intro us au w1 k22 hlo hhi ha hd hst hI
                                  obtain rfl : k22 = 0 := by omega
                                  have e21 := hd 21 _ (by kernel_rfl) rfl
                                  have q16 := slot_far (t := 16) (v := .int .i64 (i : Int)) ha (by kernel_rfl) (by kernel_rfl)
                                  have p16 := slot_norm q16
                                  have hg := slot_at (t := 146) 21 ha (by kernel_rfl) (by kernel_rfl) (by kernel_rfl) e21
                                  clear ha hd hst
                                  exact StepI.pure (v := .int .i64 (i : Int)) rfl (wanted_at rfl rfl hg) (by go_simp) ⟨rfl, hI⟩
                                · intro us au w1 k23 hlo hhi ha hd hst hI
                                  obtain rfl : k23 = 0 := by omega
                                  have e22 := hd 22 _ (by kernel_rfl) rfl
                                  have e21 := hd 21 _ (by kernel_rfl) rfl
                                  have q147 := slot_at (t := 147) 22 ha (by kernel_rfl) (by kernel_rfl) (by kernel_rfl) e22
                                  have p147 := slot_norm q147
                                  have hg := slot_at (t := 146) 21 ha (by kernel_rfl) (by kernel_rfl) (by kernel_rfl) e21
                                  clear ha hd hst
                                  exact StepI.pure (v := .int .u64 (i : Int)) rfl (wanted_at rfl rfl hg) (by go_simp) ⟨rfl, hI⟩
                                · intro us au w1 k24 hlo hhi ha hd hst hI
                                  obtain rfl : k24 = 0 := by omega
                                  have e21 := hd 21 _ (by kernel_rfl) rfl
                                  have q4 := slot_far (t := 4) (v := .slice (some ⟨bf, of, none⟩) 256 cc) ha (by kernel_rfl) (by kernel_rfl)
                                  have p4 := slot_norm q4
                                  have hg := slot_at (t := 146) 21 ha (by kernel_rfl) (by kernel_rfl) (by kernel_rfl) e21
                                  clear ha hd hst
                                  exact StepI.pure (v := .slice (some ⟨bf, of, none⟩) 256 cc) rfl (wanted_at rfl rfl hg) (by go_simp) ⟨rfl, hI⟩
                                · intro us au w1 k25 hlo hhi ha hd hst hI
                                  obtain rfl : k25 = 0 := by omega
                                  have e21 := hd 21 _ (by kernel_rfl) rfl
                                  have q17 := slot_far (t := 17) (v := .slice (some ⟨blk, o1 + r1, none⟩) 20 (c1 - r1)) ha (by kernel_rfl) (by kernel_rfl)
                                  have p17 := slot_norm q17
                                  have hg := slot_at (t := 146) 21 ha (by kernel_rfl) (by kernel_rfl) (by kernel_rfl) e21
                                  clear ha hd hst
                                  exact StepI.pure (v := .slice (some ⟨blk, o1 + r1, none⟩) 20 (c1 - r1)) rfl (wanted_at rfl rfl hg) (by go_simp) ⟨rfl, hI⟩
                                · intro us au w1 k26 hlo hhi ha hd hst hI
                                  obtain rfl : k26 = 0 := by omega
                                  have e25 := hd 25 _ (by kernel_rfl) rfl
                                  have e21 := hd 21 _ (by kernel_rfl) rfl
                                  have q150 := slot_at (t := 150) 25 ha (by kernel_rfl) (by kernel_rfl) (by kernel_rfl) e25
                                  have p150 := slot_norm q150
                                  have hg := slot_at (t := 146) 21 ha (by kernel_rfl) (by kernel_rfl) (by kernel_rfl) e21
                                  clear ha hd hst
                                  exact StepI.pure (v := .pointer (some ⟨blk, o1 + r1, none⟩)) rfl (wanted_at rfl rfl hg) (by go_simp) ⟨rfl, hI⟩
                                · intro us au w1 k27 hlo hhi ha hd hst hI
                                  obtain rfl : k27 = 0 := by omega
                                  have e26 := hd 26 _ (by kernel_rfl) rfl
                                  have e21 := hd 21 _ (by kernel_rfl) rfl
                                  have q151 := slot_at (t := 151) 26 ha (by kernel_rfl) (by kernel_rfl) (by kernel_rfl) e26
                                  have p151 := slot_norm q151
                                  have hg := slot_at (t := 146) 21 ha (by kernel_rfl) (by kernel_rfl) (by kernel_rfl) e21
                                  clear ha hd hst
                                  have kx1 := KX.out
                                  exact StepI.pure (v := .int .u8 (q : Int)) rfl (wanted_at rfl rfl hg) (by go_simp) ⟨rfl, hI⟩
                                · intro us au w1 k28 hlo hhi ha hd hst hI
                                  obtain rfl : k28 = 0 := by omega
                                  have e24 := hd 24 _ (by kernel_rfl) rfl
                                  have e27 := hd 27 _ (by kernel_rfl) rfl
                                  have e21 := hd 21 _ (by kernel_rfl) rfl
                                  have q149 := slot_at (t := 149) 24 ha (by kernel_rfl) (by kernel_rfl) (by kernel_rfl) e24
                                  have p149 := slot_norm q149
                                  have q152 := slot_at (t := 152) 27 ha (by kernel_rfl) (by kernel_rfl) (by kernel_rfl) e27
                                  have p152 := slot_norm q152
                                  have hg := slot_at (t := 146) 21 ha (by kernel_rfl) (by kernel_rfl) (by kernel_rfl) e21
                                  clear ha hd hst
                                  have hq7 : (q : Int) < 256 := by omega
                                  exact StepI.pure (v := .pointer (some ⟨bf, of + q, none⟩)) rfl (wanted_at rfl rfl hg) (by go_simp) ⟨rfl, hI⟩
                                · intro us au w1 k29 hlo hhi ha hd hst hI
                                  obtain rfl : k29 = 0 := by omega
                                  have e28 := hd 28 _ (by kernel_rfl) rfl
                                  have e21 := hd 21 _ (by kernel_rfl) rfl
                                  have q153 := slot_at (t := 153) 28 ha (by kernel_rfl) (by kernel_rfl) (by kernel_rfl) e28
                                  have p153 := slot_norm q153
                                  have hg := slot_at (t := 146) 21 ha (by kernel_rfl) (by kernel_rfl) (by kernel_rfl) e21
                                  clear ha hd hst
                                  have kf1 := KF.out
                                  exact StepI.pure (v := .int .u64 FQ) rfl (wanted_at rfl rfl hg) (by go_simp) ⟨rfl, hI⟩
                                · intro us au w1 k30 hlo hhi ha hd hst hI
                                  obtain rfl : k30 = 0 := by omega
                                  have e23 := hd 23 _ (by kernel_rfl) rfl
                                  have e29 := hd 29 _ (by kernel_rfl) rfl
                                  have e21 := hd 21 _ (by kernel_rfl) rfl
                                  have q148 := slot_at (t := 148) 23 ha (by kernel_rfl) (by kernel_rfl) (by kernel_rfl) e23
                                  have p148 := slot_norm q148
                                  have q154 := slot_at (t := 154) 29 ha (by kernel_rfl) (by kernel_rfl) (by kernel_rfl) e29
                                  have p154 := slot_norm q154
                                  have hg := slot_at (t := 146) 21 ha (by kernel_rfl) (by kernel_rfl) (by kernel_rfl) e21
                                  clear ha hd hst
                                  exact StepI.pure (v := .bool (decide (FQ ≤ (i : Int)))) rfl (wanted_at rfl rfl hg) (by go_simp) ⟨rfl, hI⟩
                                · intro us au w1 k31 hlo hhi ha hd hst hI
                                  obtain rfl : k31 = 0 := by omega
                                  have e21 := hd 21 _ (by kernel_rfl) rfl
                                  have e30 := hd 30 _ (by kernel_rfl) rfl
                                  have q146 := slot_at (t := 146) 21 ha (by kernel_rfl) (by kernel_rfl) (by kernel_rfl) e21
                                  have p146 := slot_norm q146
                                  have q155 := slot_at (t := 155) 30 ha (by kernel_rfl) (by kernel_rfl) (by kernel_rfl) e30
                                  have p155 := slot_norm q155
                                  clear ha hd hst
                                  exact StepI.pure (v := .bool (decide (FQ ≤ (i : Int)))) rfl rfl (by go_simp) ⟨rfl, hI⟩
                              case done =>
                                intro us w1 hI hd
                                have e31 := hd 31 _ (by decide) rfl
                                have E31 := Lib.hid e31
                                have HI9 := Lib.hid hI
                                clear hd e31 hI
                                simp only [putAll]
                                go_simp
                                go_wp2
                                go_meet
                                exact ⟨by rw [E31.out, HBO.out]; first | done | rfl, HI9.out⟩
                          · obtain ⟨j, hj⟩ : ∃ j : Nat, i = j + 1 := ⟨i - 1, by omega⟩
                            have q5 : decide ((0 : Int) < (i : Int)) = true := decide_eq_true (by omega)
                            have q5' : decide (0 < i) = true := decide_eq_true (by omega)
                            have q5p : 0 < i := by omega
                            obtain ⟨rp, hrp⟩ : ∃ rp, 20 * j = rp := ⟨_, rfl⟩
                            have s14 : IntKind.i64.wrap ((r1 : Int) - 20) = (rp : Int) := by have h1 := HR1.out; rw [IntWalk.i64_in _ (by omega)]; omega
                            have hp1 : rp ≤ r1 := by have := HR1.out; omega
                            have hp2 : r1 ≤ c1 := by omega
                            have hp3 : ¬ c1 = rp := by have := HR1.out; omega
                            have hp4 : r1 - rp = 20 := by have := HR1.out; omega
                            have HCP : Hid (∀ W, W = wr.drew → (convert 24 9 (.slice (some ⟨blk, o1 + rp, none⟩) 20 (c1 - rp))).run Try.prog W = .ok (.string (strOfNums (idL b j))) W) := fun W hW => by
                              have h1 := HPL.out
                              have h0 : Ints .u8 W (some ⟨blk, off, none⟩) b := by rw [hW]; exact (HI.out.below HBL.out).drew
                              have h2 := (h0.drop (1032 + 20 * j)).take 20
                              have hl := idL_len (b := b) (i := j) (n := n) (by rw [HN.out, HW.out]; omega) (by omega)
                              have := run_str_ints (P := Try.prog) (w := W) 24 9 5 Try.underlying24 Try.underlying5 Try.underlying9 (some ⟨blk, o1 + rp, none⟩) (c1 - rp) (idL b j) (by rw [show o1 + rp = off + (1032 + 20 * j) by rw [← hrp, h1.1.1]; omega]; exact h2)
                              rw [hl] at this
                              exact this
                            have hL := str_less _ _ (idL_ok HB.out j) (idL_ok HB.out i)
                            have hji : i - 1 = j := by omega
                            have HXX : Hid ((decide (0 < i) && !ltL (idL b (i - 1)) (idL b i)) = !ltL (idL b j) (idL b i)) := by show _ = _; rw [q5', hji, Bool.true_and]
                            generalize strOfNums (idL b i) = SC at *
                            generalize strOfNums (idL b j) = SP at *
                            clear hi0 hj hji hrp
                            cases hlt2 : ltL (idL b j) (idL b i)
                            · rw [hlt2] at hL HXX
                              have HBO := Lib.hid (badO_x (b := b) (i := i) HXX.out)
                              clear hlt2
                              go_wp2
                              refine wp_region_ph (by kernel_rfl) [] [.span 0 0, .span 0 0, .span 0 0, .span 0 0, .span 0 0, .span 0 0, .span 0 0, .span 0 0, .span 0 0, .span 0 0, .span 0 0, .span 0 0, .span 0 0, .span 0 0, .span 0 0, .span 0 0, .span 0 0, .span 0 0, .span 0 0, .span 0 0, .span 0 0, .span 0 0, .span 0 0, .span 0 0, .span 0 0, .span 0 0, .span 0 0, .span 0 0, .span 0 0, .span 0 0, .span 0 0, .span 0 0] [fun z9 => z9 = .int .i64 (i : Int), fun z9 => z9 = .bool true, fun z9 => z9 = .bool true, fun z9 => z9 = .slice (some ⟨blk, o1, none⟩) N1 c1, fun z9 => z9 = .int .i64 (i : Int), fun z9 => z9 = .int .i64 (r1 : Int), fun z9 => z9 = .int .i64 (rp : Int), fun z9 => z9 = .int .i64 (i : Int), fun z9 => z9 = .int .i64 (r1 : Int), fun z9 => z9 = .slice (some ⟨blk, o1 + rp, none⟩) 20 (c1 - rp), fun z9 => z9 = .string SP, fun z9 => z9 = .slice (some ⟨blk, o1 + r1, none⟩) 20 (c1 - r1), fun z9 => z9 = .string SC, fun z9 => z9 = .bool true, fun z9 => z9 = .bool true, fun z9 => z9 = .bool true, fun z9 => z9 = undef, fun z9 => z9 = undef, fun z9 => z9 = undef, fun z9 => z9 = undef, fun z9 => z9 = .bool true, fun z9 => z9 = .bool true, fun z9 => z9 = undef, fun z9 => z9 = undef, fun z9 => z9 = undef, fun z9 => z9 = undef, fun z9 => z9 = undef, fun z9 => z9 = undef, fun z9 => z9 = undef, fun z9 => z9 = undef, fun z9 => z9 = undef, fun z9 => z9 = .bool true] ((fun _ w => w = wr.drew)) (by kernel_rfl) (by kernel_rfl) (by kernel_rfl) (by kernel_rfl) (by kernel_rfl) (by kernel_rfl) rfl rfl (rfl) ?steps ?done
                              case steps =>
                                refine ⟨?_, ?_, ?_, ?_, ?_, ?_, ?_, ?_, ?_, ?_, ?_, ?_, ?_, ?_, ?_, ?_, ?_, ?_, ?_, ?_, ?_, ?_, ?_, ?_, ?_, ?_, ?_, ?_, ?_, ?_, ?_, ?_, trivial⟩
                                · intro us au w1 k0 hlo hhi ha hd hst hI
                                  obtain rfl : k0 = 0 := by omega
                                  have q16 := slot_far (t := 16) (v := .int .i64 (i : Int)) ha (by kernel_rfl) (by kernel_rfl)
                                  have p16 := slot_norm q16
                                  clear ha hd hst
                                  exact StepI.pure (v := .int .i64 (i : Int)) rfl rfl (by go_simp) ⟨rfl, hI⟩
                                · intro us au w1 k1 hlo hhi ha hd hst hI
                                  obtain rfl : k1 = 0 := by omega
                                  have e0 := hd 0 _ (by kernel_rfl) rfl
                                  have q125 := slot_at (t := 125) 0 ha (by kernel_rfl) (by kernel_rfl) (by kernel_rfl) e0
                                  have p125 := slot_norm q125
                                  clear ha hd hst
                                  exact StepI.pure (v := .bool true) rfl rfl (by go_simp) ⟨rfl, hI⟩
                                · intro us au w1 k2 hlo hhi ha hd hst hI
                                  obtain rfl : k2 = 0 := by omega
                                  have e1 := hd 1 _ (by kernel_rfl) rfl
                                  have q126 := slot_at (t := 126) 1 ha (by kernel_rfl) (by kernel_rfl) (by kernel_rfl) e1
                                  have p126 := slot_norm q126
                                  clear ha hd hst
                                  exact StepI.pure (v := .bool true) rfl rfl (by go_simp) ⟨rfl, hI⟩
                                · intro us au w1 k3 hlo hhi ha hd hst hI
                                  obtain rfl : k3 = 0 := by omega
                                  have e2 := hd 2 _ (by kernel_rfl) rfl
                                  have q8 := slot_far (t := 8) (v := .slice (some ⟨blk, o1, none⟩) N1 c1) ha (by kernel_rfl) (by kernel_rfl)
                                  have p8 := slot_norm q8
                                  have hg := slot_at (t := 127) 2 ha (by kernel_rfl) (by kernel_rfl) (by kernel_rfl) e2
                                  clear ha hd hst
                                  exact StepI.pure (v := .slice (some ⟨blk, o1, none⟩) N1 c1) rfl (wanted_at rfl rfl hg) (by go_simp) ⟨rfl, hI⟩
                                · intro us au w1 k4 hlo hhi ha hd hst hI
                                  obtain rfl : k4 = 0 := by omega
                                  have e2 := hd 2 _ (by kernel_rfl) rfl
                                  have q16 := slot_far (t := 16) (v := .int .i64 (i : Int)) ha (by kernel_rfl) (by kernel_rfl)
                                  have p16 := slot_norm q16
                                  have hg := slot_at (t := 127) 2 ha (by kernel_rfl) (by kernel_rfl) (by kernel_rfl) e2
                                  clear ha hd hst
                                  exact StepI.pure (v := .int .i64 (i : Int)) rfl (wanted_at rfl rfl hg) (by go_simp) ⟨rfl, hI⟩
                                · intro us au w1 k5 hlo hhi ha hd hst hI
                                  obtain rfl : k5 = 0 := by omega
                                  have e4 := hd 4 _ (by kernel_rfl) rfl
                                  have e2 := hd 2 _ (by kernel_rfl) rfl
                                  have q129 := slot_at (t := 129) 4 ha (by kernel_rfl) (by kernel_rfl) (by kernel_rfl) e4
                                  have p129 := slot_norm q129
                                  have hg := slot_at (t := 127) 2 ha (by kernel_rfl) (by kernel_rfl) (by kernel_rfl) e2
                                  clear ha hd hst
                                  exact StepI.pure (v := .int .i64 (r1 : Int)) rfl (wanted_at rfl rfl hg) (by go_simp) ⟨rfl, hI⟩
                                · intro us au w1 k6 hlo hhi ha hd hst hI
                                  obtain rfl : k6 = 0 := by omega
                                  have e5 := hd 5 _ (by kernel_rfl) rfl
                                  have e2 := hd 2 _ (by kernel_rfl) rfl
                                  have q130 := slot_at (t := 130) 5 ha (by kernel_rfl) (by kernel_rfl) (by kernel_rfl) e5
                                  have p130 := slot_norm q130
                                  have hg := slot_at (t := 127) 2 ha (by kernel_rfl) (by kernel_rfl) (by kernel_rfl) e2
                                  clear ha hd hst
                                  exact StepI.pure (v := .int .i64 (rp : Int)) rfl (wanted_at rfl rfl hg) (by go_simp) ⟨rfl, hI⟩
                                · intro us au w1 k7 hlo hhi ha hd hst hI
                                  obtain rfl : k7 = 0 := by omega
                                  have e2 := hd 2 _ (by kernel_rfl) rfl
                                  have q16 := slot_far (t := 16) (v := .int .i64 (i : Int)) ha (by kernel_rfl) (by kernel_rfl)
                                  have p16 := slot_norm q16
                                  have hg := slot_at (t := 127) 2 ha (by kernel_rfl) (by kernel_rfl) (by kernel_rfl) e2
                                  clear ha hd hst
                                  exact StepI.pure (v := .int .i64 (i : Int)) rfl (wanted_at rfl rfl hg) (by go_simp) ⟨rfl, hI⟩
                                · intro us au w1 k8 hlo hhi ha hd hst hI
                                  obtain rfl : k8 = 0 := by omega
                                  have e7 := hd 7 _ (by kernel_rfl) rfl
                                  have e2 := hd 2 _ (by kernel_rfl) rfl
                                  have q132 := slot_at (t := 132) 7 ha (by kernel_rfl) (by kernel_rfl) (by kernel_rfl) e7
                                  have p132 := slot_norm q132
                                  have hg := slot_at (t := 127) 2 ha (by kernel_rfl) (by kernel_rfl) (by kernel_rfl) e2
                                  clear ha hd hst
                                  exact StepI.pure (v := .int .i64 (r1 : Int)) rfl (wanted_at rfl rfl hg) (by go_simp) ⟨rfl, hI⟩
                                · intro us au w1 k9 hlo hhi ha hd hst hI
                                  obtain rfl : k9 = 0 := by omega
                                  have e3 := hd 3 _ (by kernel_rfl) rfl
                                  have e6 := hd 6 _ (by kernel_rfl) rfl
                                  have e8 := hd 8 _ (by kernel_rfl) rfl
                                  have e2 := hd 2 _ (by kernel_rfl) rfl
                                  have q128 := slot_at (t := 128) 3 ha (by kernel_rfl) (by kernel_rfl) (by kernel_rfl) e3
                                  have p128 := slot_norm q128
                                  have q131 := slot_at (t := 131) 6 ha (by kernel_rfl) (by kernel_rfl) (by kernel_rfl) e6
                                  have p131 := slot_norm q131
                                  have q133 := slot_at (t := 133) 8 ha (by kernel_rfl) (by kernel_rfl) (by kernel_rfl) e8
                                  have p133 := slot_norm q133
                                  have hg := slot_at (t := 127) 2 ha (by kernel_rfl) (by kernel_rfl) (by kernel_rfl) e2
                                  clear ha hd hst
                                  exact StepI.pure (v := .slice (some ⟨blk, o1 + rp, none⟩) 20 (c1 - rp)) rfl (wanted_at rfl rfl hg) (by go_simp) ⟨rfl, hI⟩
                                · intro us au w1 k10 hlo hhi ha hd hst hI
                                  obtain rfl : k10 = 0 := by omega
                                  have e9 := hd 9 _ (by kernel_rfl) rfl
                                  have e2 := hd 2 _ (by kernel_rfl) rfl
                                  have q134 := slot_at (t := 134) 9 ha (by kernel_rfl) (by kernel_rfl) (by kernel_rfl) e9
                                  have p134 := slot_norm q134
                                  have hg := slot_at (t := 127) 2 ha (by kernel_rfl) (by kernel_rfl) (by kernel_rfl) e2
                                  clear ha hd hst
                                  have hcv := HCP.out wr.drew rfl
                                  exact StepI.pure (v := .string SP) rfl (wanted_at rfl rfl hg) (by go_simp) ⟨rfl, hI⟩
                                · intro us au w1 k11 hlo hhi ha hd hst hI
                                  obtain rfl : k11 = 0 := by omega
                                  have e2 := hd 2 _ (by kernel_rfl) rfl
                                  have q17 := slot_far (t := 17) (v := .slice (some ⟨blk, o1 + r1, none⟩) 20 (c1 - r1)) ha (by kernel_rfl) (by kernel_rfl)
                                  have p17 := slot_norm q17
                                  have hg := slot_at (t := 127) 2 ha (by kernel_rfl) (by kernel_rfl) (by kernel_rfl) e2
                                  clear ha hd hst
                                  exact StepI.pure (v := .slice (some ⟨blk, o1 + r1, none⟩) 20 (c1 - r1)) rfl (wanted_at rfl rfl hg) (by go_simp) ⟨rfl, hI⟩
                                · intro us au w1 k12 hlo hhi ha hd hst hI
                                  obtain rfl : k12 = 0 := by omega
                                  have e11 := hd 11 _ (by kernel_rfl) rfl
                                  have e2 := hd 2 _ (by kernel_rfl) rfl
                                  have q136 := slot_at (t := 136) 11 ha (by kernel_rfl) (by kernel_rfl) (by kernel_rfl) e11
                                  have p136 := slot_norm q136
                                  have hg := slot_at (t := 127) 2 ha (by kernel_rfl) (by kernel_rfl) (by kernel_rfl) e2
                                  clear ha hd hst
                                  have hcv := HCC.out wr.drew rfl
                                  exact StepI.pure (v := .string SC) rfl (wanted_at rfl rfl hg) (by go_simp) ⟨rfl, hI⟩
                                · intro us au w1 k13 hlo hhi ha hd hst hI
                                  obtain rfl : k13 = 0 := by omega
                                  have e10 := hd 10 _ (by kernel_rfl) rfl
                                  have e12 := hd 12 _ (by kernel_rfl) rfl
                                  have e2 := hd 2 _ (by kernel_rfl) rfl
                                  have q135 := slot_at (t := 135) 10 ha (by kernel_rfl) (by kernel_rfl) (by kernel_rfl) e10
                                  have p135 := slot_norm q135
                                  have q137 := slot_at (t := 137) 12 ha (by kernel_rfl) (by kernel_rfl) (by kernel_rfl) e12
                                  have p137 := slot_norm q137
                                  have hg := slot_at (t := 127) 2 ha (by kernel_rfl) (by kernel_rfl) (by kernel_rfl) e2
                                  clear ha hd hst
                                  exact StepI.pure (v := .bool true) rfl (wanted_at rfl rfl hg) (by go_simp) ⟨rfl, hI⟩
                                · intro us au w1 k14 hlo hhi ha hd hst hI
                                  obtain rfl : k14 = 0 := by omega
                                  have e2 := hd 2 _ (by kernel_rfl) rfl
                                  have e13 := hd 13 _ (by kernel_rfl) rfl
                                  have q127 := slot_at (t := 127) 2 ha (by kernel_rfl) (by kernel_rfl) (by kernel_rfl) e2
                                  have p127 := slot_norm q127
                                  have q138 := slot_at (t := 138) 13 ha (by kernel_rfl) (by kernel_rfl) (by kernel_rfl) e13
                                  have p138 := slot_norm q138
                                  clear ha hd hst
                                  exact StepI.pure (v := .bool true) rfl rfl (by go_simp) ⟨rfl, hI⟩
                                · intro us au w1 k15 hlo hhi ha hd hst hI
                                  obtain rfl : k15 = 0 := by omega
                                  have e14 := hd 14 _ (by kernel_rfl) rfl
                                  have q139 := slot_at (t := 139) 14 ha (by kernel_rfl) (by kernel_rfl) (by kernel_rfl) e14
                                  have p139 := slot_norm q139
                                  clear ha hd hst
                                  exact StepI.pure (v := .bool true) rfl rfl (by go_simp) ⟨rfl, hI⟩
                                · intro us au w1 k16 hlo hhi ha hd hst hI
                                  obtain rfl : k16 = 0 := by omega
                                  have e15 := hd 15 _ (by kernel_rfl) rfl
                                  have hg := slot_at (t := 140) 15 ha (by kernel_rfl) (by kernel_rfl) (by kernel_rfl) e15
                                  exact StepI.skip rfl (unwanted_at rfl rfl hg rfl) ⟨rfl, hI⟩
                                · intro us au w1 k17 hlo hhi ha hd hst hI
                                  obtain rfl : k17 = 0 := by omega
                                  have e15 := hd 15 _ (by kernel_rfl) rfl
                                  have hg := slot_at (t := 140) 15 ha (by kernel_rfl) (by kernel_rfl) (by kernel_rfl) e15
                                  exact StepI.skip rfl (unwanted_at rfl rfl hg rfl) ⟨rfl, hI⟩
                                · intro us au w1 k18 hlo hhi ha hd hst hI
                                  obtain rfl : k18 = 0 := by omega
                                  have e15 := hd 15 _ (by kernel_rfl) rfl
                                  have hg := slot_at (t := 140) 15 ha (by kernel_rfl) (by kernel_rfl) (by kernel_rfl) e15
                                  exact StepI.skip rfl (unwanted_at rfl rfl hg rfl) ⟨rfl, hI⟩
                                · intro us au w1 k19 hlo hhi ha hd hst hI
                                  obtain rfl : k19 = 0 := by omega
                                  have e15 := hd 15 _ (by kernel_rfl) rfl
                                  have hg := slot_at (t := 140) 15 ha (by kernel_rfl) (by kernel_rfl) (by kernel_rfl) e15
                                  exact StepI.skip rfl (unwanted_at rfl rfl hg rfl) ⟨rfl, hI⟩
                                · intro us au w1 k20 hlo hhi ha hd hst hI
                                  obtain rfl : k20 = 0 := by omega
                                  have e15 := hd 15 _ (by kernel_rfl) rfl
                                  have e19 := hd 19 _ (by kernel_rfl) rfl
                                  have q140 := slot_at (t := 140) 15 ha (by kernel_rfl) (by kernel_rfl) (by kernel_rfl) e15
                                  have p140 := slot_norm q140
                                  have q144 := slot_at (t := 144) 19 ha (by kernel_rfl) (by kernel_rfl) (by kernel_rfl) e19
                                  have p144 := slot_norm q144
                                  clear ha hd hst
                                  exact StepI.pure (v := .bool true) rfl rfl (by go_simp) ⟨rfl, hI⟩
                                · intro us au w1 k21 hlo hhi ha hd hst hI
                                  obtain rfl : k21 = 0 := by omega
                                  have e20 := hd 20 _ (by kernel_rfl) rfl
                                  have q145 := slot_at (t := 145) 20 ha (by kernel_rfl) (by kernel_rfl) (by kernel_rfl) e20
                                  have p145 := slot_norm q145
                                  clear ha hd hst
                                  exact StepI.pure (v := .bool true) rfl rfl (by go_simp) ⟨rfl, hI⟩
                                · intro us au w1 k22 hlo hhi ha hd hst hI
                                  obtain rfl : k22 = 0 := by omega
                                  have e21 := hd 21 _ (by kernel_rfl) rfl
                                  have hg := slot_at (t := 146) 21 ha (by kernel_rfl) (by kernel_rfl) (by kernel_rfl) e21
                                  exact StepI.skip rfl (unwanted_at rfl rfl hg rfl) ⟨rfl, hI⟩
                                · intro us au w1 k23 hlo hhi ha hd hst hI
                                  obtain rfl : k23 = 0 := by omega
                                  have e21 := hd 21 _ (by kernel_rfl) rfl
                                  have hg := slot_at (t := 146) 21 ha (by kernel_rfl) (by kernel_rfl) (by kernel_rfl) e21
                                  exact StepI.skip rfl (unwanted_at rfl rfl hg rfl) ⟨rfl, hI⟩
                                · intro us au w1 k24 hlo hhi ha hd hst hI
                                  obtain rfl : k24 = 0 := by omega
                                  have e21 := hd 21 _ (by kernel_rfl) rfl
                                  have hg := slot_at (t := 146) 21 ha (by kernel_rfl) (by kernel_rfl) (by kernel_rfl) e21
                                  exact StepI.skip rfl (unwanted_at rfl rfl hg rfl) ⟨rfl, hI⟩
                                · intro us au w1 k25 hlo hhi ha hd hst hI
                                  obtain rfl : k25 = 0 := by omega
                                  have e21 := hd 21 _ (by kernel_rfl) rfl
                                  have hg := slot_at (t := 146) 21 ha (by kernel_rfl) (by kernel_rfl) (by kernel_rfl) e21
                                  exact StepI.skip rfl (unwanted_at rfl rfl hg rfl) ⟨rfl, hI⟩
                                · intro us au w1 k26 hlo hhi ha hd hst hI
                                  obtain rfl : k26 = 0 := by omega
                                  have e21 := hd 21 _ (by kernel_rfl) rfl
                                  have hg := slot_at (t := 146) 21 ha (by kernel_rfl) (by kernel_rfl) (by kernel_rfl) e21
                                  exact StepI.skip rfl (unwanted_at rfl rfl hg rfl) ⟨rfl, hI⟩
                                · intro us au w1 k27 hlo hhi ha hd hst hI
                                  obtain rfl : k27 = 0 := by omega
                                  have e21 := hd 21 _ (by kernel_rfl) rfl
                                  have hg := slot_at (t := 146) 21 ha (by kernel_rfl) (by kernel_rfl) (by kernel_rfl) e21
                                  exact StepI.skip rfl (unwanted_at rfl rfl hg rfl) ⟨rfl, hI⟩
                                · intro us au w1 k28 hlo hhi ha hd hst hI
                                  obtain rfl : k28 = 0 := by omega
                                  have e21 := hd 21 _ (by kernel_rfl) rfl
                                  have hg := slot_at (t := 146) 21 ha (by kernel_rfl) (by kernel_rfl) (by kernel_rfl) e21
                                  exact StepI.skip rfl (unwanted_at rfl rfl hg rfl) ⟨rfl, hI⟩
                                · intro us au w1 k29 hlo hhi ha hd hst hI
                                  obtain rfl : k29 = 0 := by omega
                                  have e21 := hd 21 _ (by kernel_rfl) rfl
                                  have hg := slot_at (t := 146) 21 ha (by kernel_rfl) (by kernel_rfl) (by kernel_rfl) e21
                                  exact StepI.skip rfl (unwanted_at rfl rfl hg rfl) ⟨rfl, hI⟩
                                · intro us au w1 k30 hlo hhi ha hd hst hI
                                  obtain rfl : k30 = 0 := by omega
                                  have e21 := hd 21 _ (by kernel_rfl) rfl
                                  have hg := slot_at (t := 146) 21 ha (by kernel_rfl) (by kernel_rfl) (by kernel_rfl) e21
                                  exact StepI.skip rfl (unwanted_at rfl rfl hg rfl) ⟨rfl, hI⟩
                                · intro us au w1 k31 hlo hhi ha hd hst hI
                                  obtain rfl : k31 = 0 := by omega
                                  have e21 := hd 21 _ (by kernel_rfl) rfl
                                  have e30 := hd 30 _ (by kernel_rfl) rfl
                                  have q146 := slot_at (t := 146) 21 ha (by kernel_rfl) (by kernel_rfl) (by kernel_rfl) e21
                                  have p146 := slot_norm q146
                                  have q155 := slot_at (t := 155) 30 ha (by kernel_rfl) (by kernel_rfl) (by kernel_rfl) e30
                                  have p155 := slot_norm q155
                                  clear ha hd hst
                                  exact StepI.pure (v := .bool true) rfl rfl (by go_simp) ⟨rfl, hI⟩
                              case done =>
                                intro us w1 hI hd
                                have e31 := hd 31 _ (by decide) rfl
                                have E31 := Lib.hid e31
                                have HI9 := Lib.hid hI
                                clear hd e31 hI
                                simp only [putAll]
                                go_simp
                                go_wp2
                                go_meet
                                exact ⟨by rw [E31.out, HBO.out]; first | done | rfl, HI9.out⟩
                            · rw [hlt2] at hL HXX
                              have HX : Hid ((decide (0 < i) && !ltL (idL b (i - 1)) (idL b i)) = false) := HXX.out
                              clear hlt2 HXX
                              by_cases hz : (i : Int) < LO
                              · have q4 : decide ((i : Int) < LO) = true := decide_eq_true hz
                                have HBO : Hid (badO b i = true) := by
                                  show _ = _
                                  rw [badO_eval (b := b) (i := i) HX.out HY.out (HZ.out.trans q4)]
                                  cases decide (FQ ≤ (i : Int)) <;> rfl
                                clear hz
                                go_wp2
                                refine wp_region_ph (by kernel_rfl) [] [.span 0 0, .span 0 0, .span 0 0, .span 0 0, .span 0 0, .span 0 0, .span 0 0, .span 0 0, .span 0 0, .span 0 0, .span 0 0, .span 0 0, .span 0 0, .span 0 0, .span 0 0, .span 0 0, .span 0 0, .span 0 0, .span 0 0, .span 0 0, .span 0 0, .span 0 0, .span 0 0, .span 0 0, .span 0 0, .span 0 0, .span 0 0, .span 0 0, .span 0 0, .span 0 0, .span 0 0, .span 0 0] [fun z9 => z9 = .int .i64 (i : Int), fun z9 => z9 = .bool true, fun z9 => z9 = .bool true, fun z9 => z9 = .slice (some ⟨blk, o1, none⟩) N1 c1, fun z9 => z9 = .int .i64 (i : Int), fun z9 => z9 = .int .i64 (r1 : Int), fun z9 => z9 = .int .i64 (rp : Int), fun z9 => z9 = .int .i64 (i : Int), fun z9 => z9 = .int .i64 (r1 : Int), fun z9 => z9 = .slice (some ⟨blk, o1 + rp, none⟩) 20 (c1 - rp), fun z9 => z9 = .string SP, fun z9 => z9 = .slice (some ⟨blk, o1 + r1, none⟩) 20 (c1 - r1), fun z9 => z9 = .string SC, fun z9 => z9 = .bool false, fun z9 => z9 = .bool false, fun z9 => z9 = .bool false, fun z9 => z9 = .int .i64 (i : Int), fun z9 => z9 = .int .u64 (i : Int), fun z9 => z9 = .int .u64 LO, fun z9 => z9 = .bool true, fun z9 => z9 = .bool true, fun z9 => z9 = .bool true, fun z9 => z9 = undef, fun z9 => z9 = undef, fun z9 => z9 = undef, fun z9 => z9 = undef, fun z9 => z9 = undef, fun z9 => z9 = undef, fun z9 => z9 = undef, fun z9 => z9 = undef, fun z9 => z9 = undef, fun z9 => z9 = .bool true] ((fun _ w => w = wr.drew)) (by kernel_rfl) (by kernel_rfl) (by kernel_rfl) (by kernel_rfl) (by kernel_rfl) (by kernel_rfl) rfl rfl (rfl) ?steps ?done
                                case steps =>
                                  refine ⟨?_, ?_, ?_, ?_, ?_, ?_, ?_, ?_, ?_, ?_, ?_, ?_, ?_, ?_, ?_, ?_, ?_, ?_, ?_, ?_, ?_, ?_, ?_, ?_, ?_, ?_, ?_, ?_, ?_, ?_, ?_, ?_, trivial⟩
                                  · intro us au w1 k0 hlo hhi ha hd hst hI
                                    obtain rfl : k0 = 0 := by omega
                                    have q16 := slot_far (t := 16) (v := .int .i64 (i : Int)) ha (by kernel_rfl) (by kernel_rfl)
                                    have p16 := slot_norm q16
                                    clear ha hd hst
                                    exact StepI.pure (v := .int .i64 (i : Int)) rfl rfl (by go_simp) ⟨rfl, hI⟩
                                  · intro us au w1 k1 hlo hhi ha hd hst hI
                                    obtain rfl : k1 = 0 := by omega
                                    have e0 := hd 0 _ (by kernel_rfl) rfl
                                    have q125 := slot_at (t := 125) 0 ha (by kernel_rfl) (by kernel_rfl) (by kernel_rfl) e0
                                    have p125 := slot_norm q125
                                    clear ha hd hst
                                    exact StepI.pure (v := .bool true) rfl rfl (by go_simp) ⟨rfl, hI⟩
                                  · intro us au w1 k2 hlo hhi ha hd hst hI
                                    obtain rfl : k2 = 0 := by omega
                                    have e1 := hd 1 _ (by kernel_rfl) rfl
                                    have q126 := slot_at (t := 126) 1 ha (by kernel_rfl) (by kernel_rfl) (by kernel_rfl) e1
                                    have p126 := slot_norm q126
                                    clear ha hd hst
                                    exact StepI.pure (v := .bool true) rfl rfl (by go_simp) ⟨rfl, hI⟩
                                  · intro us au w1 k3 hlo hhi ha hd hst hI
                                    obtain rfl : k3 = 0 := by omega
                                    have e2 := hd 2 _ (by kernel_rfl) rfl
                                    have q8 := slot_far (t := 8) (v := .slice (some ⟨blk, o1, none⟩) N1 c1) ha (by kernel_rfl) (by kernel_rfl)
                                    have p8 := slot_norm q8
                                    have hg := slot_at (t := 127) 2 ha (by kernel_rfl) (by kernel_rfl) (by kernel_rfl) e2
                                    clear ha hd hst
                                    exact StepI.pure (v := .slice (some ⟨blk, o1, none⟩) N1 c1) rfl (wanted_at rfl rfl hg) (by go_simp) ⟨rfl, hI⟩
                                  · intro us au w1 k4 hlo hhi ha hd hst hI
                                    obtain rfl : k4 = 0 := by omega
                                    have e2 := hd 2 _ (by kernel_rfl) rfl
                                    have q16 := slot_far (t := 16) (v := .int .i64 (i : Int)) ha (by kernel_rfl) (by kernel_rfl)
                                    have p16 := slot_norm q16
                                    have hg := slot_at (t := 127) 2 ha (by kernel_rfl) (by kernel_rfl) (by kernel_rfl) e2
                                    clear ha hd hst
                                    exact StepI.pure (v := .int .i64 (i : Int)) rfl (wanted_at rfl rfl hg) (by go_simp) ⟨rfl, hI⟩
                                  · intro us au w1 k5 hlo hhi ha hd hst hI
                                    obtain rfl : k5 = 0 := by omega
                                    have e4 := hd 4 _ (by kernel_rfl) rfl
                                    have e2 := hd 2 _ (by kernel_rfl) rfl
                                    have q129 := slot_at (t := 129) 4 ha (by kernel_rfl) (by kernel_rfl) (by kernel_rfl) e4
                                    have p129 := slot_norm q129
                                    have hg := slot_at (t := 127) 2 ha (by kernel_rfl) (by kernel_rfl) (by kernel_rfl) e2
                                    clear ha hd hst
                                    exact StepI.pure (v := .int .i64 (r1 : Int)) rfl (wanted_at rfl rfl hg) (by go_simp) ⟨rfl, hI⟩
                                  · intro us au w1 k6 hlo hhi ha hd hst hI
                                    obtain rfl : k6 = 0 := by omega
                                    have e5 := hd 5 _ (by kernel_rfl) rfl
                                    have e2 := hd 2 _ (by kernel_rfl) rfl
                                    have q130 := slot_at (t := 130) 5 ha (by kernel_rfl) (by kernel_rfl) (by kernel_rfl) e5
                                    have p130 := slot_norm q130
                                    have hg := slot_at (t := 127) 2 ha (by kernel_rfl) (by kernel_rfl) (by kernel_rfl) e2
                                    clear ha hd hst
                                    exact StepI.pure (v := .int .i64 (rp : Int)) rfl (wanted_at rfl rfl hg) (by go_simp) ⟨rfl, hI⟩
                                  · intro us au w1 k7 hlo hhi ha hd hst hI
                                    obtain rfl : k7 = 0 := by omega
                                    have e2 := hd 2 _ (by kernel_rfl) rfl
                                    have q16 := slot_far (t := 16) (v := .int .i64 (i : Int)) ha (by kernel_rfl) (by kernel_rfl)
                                    have p16 := slot_norm q16
                                    have hg := slot_at (t := 127) 2 ha (by kernel_rfl) (by kernel_rfl) (by kernel_rfl) e2
                                    clear ha hd hst
                                    exact StepI.pure (v := .int .i64 (i : Int)) rfl (wanted_at rfl rfl hg) (by go_simp) ⟨rfl, hI⟩
                                  · intro us au w1 k8 hlo hhi ha hd hst hI
                                    obtain rfl : k8 = 0 := by omega
                                    have e7 := hd 7 _ (by kernel_rfl) rfl
                                    have e2 := hd 2 _ (by kernel_rfl) rfl
                                    have q132 := slot_at (t := 132) 7 ha (by kernel_rfl) (by kernel_rfl) (by kernel_rfl) e7
                                    have p132 := slot_norm q132
                                    have hg := slot_at (t := 127) 2 ha (by kernel_rfl) (by kernel_rfl) (by kernel_rfl) e2
                                    clear ha hd hst
                                    exact StepI.pure (v := .int .i64 (r1 : Int)) rfl (wanted_at rfl rfl hg) (by go_simp) ⟨rfl, hI⟩
                                  · intro us au w1 k9 hlo hhi ha hd hst hI
                                    obtain rfl : k9 = 0 := by omega
                                    have e3 := hd 3 _ (by kernel_rfl) rfl
                                    have e6 := hd 6 _ (by kernel_rfl) rfl
                                    have e8 := hd 8 _ (by kernel_rfl) rfl
                                    have e2 := hd 2 _ (by kernel_rfl) rfl
                                    have q128 := slot_at (t := 128) 3 ha (by kernel_rfl) (by kernel_rfl) (by kernel_rfl) e3
                                    have p128 := slot_norm q128
                                    have q131 := slot_at (t := 131) 6 ha (by kernel_rfl) (by kernel_rfl) (by kernel_rfl) e6
                                    have p131 := slot_norm q131
                                    have q133 := slot_at (t := 133) 8 ha (by kernel_rfl) (by kernel_rfl) (by kernel_rfl) e8
                                    have p133 := slot_norm q133
                                    have hg := slot_at (t := 127) 2 ha (by kernel_rfl) (by kernel_rfl) (by kernel_rfl) e2
                                    clear ha hd hst
                                    exact StepI.pure (v := .slice (some ⟨blk, o1 + rp, none⟩) 20 (c1 - rp)) rfl (wanted_at rfl rfl hg) (by go_simp) ⟨rfl, hI⟩
                                  · intro us au w1 k10 hlo hhi ha hd hst hI
                                    obtain rfl : k10 = 0 := by omega
                                    have e9 := hd 9 _ (by kernel_rfl) rfl
                                    have e2 := hd 2 _ (by kernel_rfl) rfl
                                    have q134 := slot_at (t := 134) 9 ha (by kernel_rfl) (by kernel_rfl) (by kernel_rfl) e9
                                    have p134 := slot_norm q134
                                    have hg := slot_at (t := 127) 2 ha (by kernel_rfl) (by kernel_rfl) (by kernel_rfl) e2
                                    clear ha hd hst
                                    have hcv := HCP.out wr.drew rfl
                                    exact StepI.pure (v := .string SP) rfl (wanted_at rfl rfl hg) (by go_simp) ⟨rfl, hI⟩
                                  · intro us au w1 k11 hlo hhi ha hd hst hI
                                    obtain rfl : k11 = 0 := by omega
                                    have e2 := hd 2 _ (by kernel_rfl) rfl
                                    have q17 := slot_far (t := 17) (v := .slice (some ⟨blk, o1 + r1, none⟩) 20 (c1 - r1)) ha (by kernel_rfl) (by kernel_rfl)
                                    have p17 := slot_norm q17
                                    have hg := slot_at (t := 127) 2 ha (by kernel_rfl) (by kernel_rfl) (by kernel_rfl) e2
                                    clear ha hd hst
                                    exact StepI.pure (v := .slice (some ⟨blk, o1 + r1, none⟩) 20 (c1 - r1)) rfl (wanted_at rfl rfl hg) (by go_simp) ⟨rfl, hI⟩
                                  · intro us au w1 k12 hlo hhi ha hd hst hI
                                    obtain rfl : k12 = 0 := by omega
                                    have e11 := hd 11 _ (by kernel_rfl) rfl
                                    have e2 := hd 2 _ (by kernel_rfl) rfl
                                    have q136 := slot_at (t := 136) 11 ha (by kernel_rfl) (by kernel_rfl) (by kernel_rfl) e11
                                    have p136 := slot_norm q136
                                    have hg := slot_at (t := 127) 2 ha (by kernel_rfl) (by kernel_rfl) (by kernel_rfl) e2
                                    clear ha hd hst
                                    have hcv := HCC.out wr.drew rfl
                                    exact StepI.pure (v := .string SC) rfl (wanted_at rfl rfl hg) (by go_simp) ⟨rfl, hI⟩
                                  · intro us au w1 k13 hlo hhi ha hd hst hI
                                    obtain rfl : k13 = 0 := by omega
                                    have e10 := hd 10 _ (by kernel_rfl) rfl
                                    have e12 := hd 12 _ (by kernel_rfl) rfl
                                    have e2 := hd 2 _ (by kernel_rfl) rfl
                                    have q135 := slot_at (t := 135) 10 ha (by kernel_rfl) (by kernel_rfl) (by kernel_rfl) e10
                                    have p135 := slot_norm q135
                                    have q137 := slot_at (t := 137) 12 ha (by kernel_rfl) (by kernel_rfl) (by kernel_rfl) e12
                                    have p137 := slot_norm q137
                                    have hg := slot_at (t := 127) 2 ha (by kernel_rfl) (by kernel_rfl) (by kernel_rfl) e2
                                    clear ha hd hst
                                    exact StepI.pure (v := .bool false) rfl (wanted_at rfl rfl hg) (by go_simp) ⟨rfl, hI⟩
                                  · intro us au w1 k14 hlo hhi ha hd hst hI
                                    obtain rfl : k14 = 0 := by omega
                                    have e2 := hd 2 _ (by kernel_rfl) rfl
                                    have e13 := hd 13 _ (by kernel_rfl) rfl
                                    have q127 := slot_at (t := 127) 2 ha (by kernel_rfl) (by kernel_rfl) (by kernel_rfl) e2
                                    have p127 := slot_norm q127
                                    have q138 := slot_at (t := 138) 13 ha (by kernel_rfl) (by kernel_rfl) (by kernel_rfl) e13
                                    have p138 := slot_norm q138
                                    clear ha hd hst
                                    exact StepI.pure (v := .bool false) rfl rfl (by go_simp) ⟨rfl, hI⟩
                                  · intro us au w1 k15 hlo hhi ha hd hst hI
                                    obtain rfl : k15 = 0 := by omega
                                    have e14 := hd 14 _ (by kernel_rfl) rfl
                                    have q139 := slot_at (t := 139) 14 ha (by kernel_rfl) (by kernel_rfl) (by kernel_rfl) e14
                                    have p139 := slot_norm q139
                                    clear ha hd hst
                                    exact StepI.pure (v := .bool false) rfl rfl (by go_simp) ⟨rfl, hI⟩
                                  · intro us au w1 k16 hlo hhi ha hd hst hI
                                    obtain rfl : k16 = 0 := by omega
                                    have e15 := hd 15 _ (by kernel_rfl) rfl
                                    have q16 := slot_far (t := 16) (v := .int .i64 (i : Int)) ha (by kernel_rfl) (by kernel_rfl)
                                    have p16 := slot_norm q16
                                    have hg := slot_at (t := 140) 15 ha (by kernel_rfl) (by kernel_rfl) (by kernel_rfl) e15
                                    clear ha hd hst
                                    exact StepI.pure (v := .int .i64 (i : Int)) rfl (wanted_at rfl rfl hg) (by go_simp) ⟨rfl, hI⟩
                                  · intro us au w1 k17 hlo hhi ha hd hst hI
                                    obtain rfl : k17 = 0 := by omega
                                    have e16 := hd 16 _ (by kernel_rfl) rfl
                                    have e15 := hd 15 _ (by kernel_rfl) rfl
                                    have q141 := slot_at (t := 141) 16 ha (by kernel_rfl) (by kernel_rfl) (by kernel_rfl) e16
                                    have p141 := slot_norm q141
                                    have hg := slot_at (t := 140) 15 ha (by kernel_rfl) (by kernel_rfl) (by kernel_rfl) e15
                                    clear ha hd hst
                                    exact StepI.pure (v := .int .u64 (i : Int)) rfl (wanted_at rfl rfl hg) (by go_simp) ⟨rfl, hI⟩
                                  · intro us au w1 k18 hlo hhi ha hd hst hI
                                    obtain rfl : k18 = 0 := by omega
                                    have e15 := hd 15 _ (by kernel_rfl) rfl
                                    have q18 := slot_far (t := 18) (v := .int .u64 LO) ha (by kernel_rfl) (by kernel_rfl)
                                    have p18 := slot_norm q18
                                    have hg := slot_at (t := 140) 15 ha (by kernel_rfl) (by kernel_rfl) (by kernel_rfl) e15
                                    clear ha hd hst
                                    exact StepI.pure (v := .int .u64 LO) rfl (wanted_at rfl rfl hg) (by go_simp) ⟨rfl, hI⟩
                                  · intro us au w1 k19 hlo hhi ha hd hst hI
                                    obtain rfl : k19 = 0 := by omega
                                    have e17 := hd 17 _ (by kernel_rfl) rfl
                                    have e18 := hd 18 _ (by kernel_rfl) rfl
                                    have e15 := hd 15 _ (by kernel_rfl) rfl
                                    have q142 := slot_at (t := 142) 17 ha (by kernel_rfl) (by kernel_rfl) (by kernel_rfl) e17
                                    have p142 := slot_norm q142
                                    have q143 := slot_at (t := 143) 18 ha (by kernel_rfl) (by kernel_rfl) (by kernel_rfl) e18
                                    have p143 := slot_norm q143
                                    have hg := slot_at (t := 140) 15 ha (by kernel_rfl) (by kernel_rfl) (by kernel_rfl) e15
                                    clear ha hd hst
                                    exact StepI.pure (v := .bool true) rfl (wanted_at rfl rfl hg) (by go_simp) ⟨rfl, hI⟩
                                  · intro us au w1 k20 hlo hhi ha hd hst hI
                                    obtain rfl : k20 = 0 := by omega
                                    have e15 := hd 15 _ (by kernel_rfl) rfl
                                    have e19 := hd 19 _ (by kernel_rfl) rfl
                                    have q140 := slot_at (t := 140) 15 ha (by kernel_rfl) (by kernel_rfl) (by kernel_rfl) e15
                                    have p140 := slot_norm q140
                                    have q144 := slot_at (t := 144) 19 ha (by kernel_rfl) (by kernel_rfl) (by kernel_rfl) e19
                                    have p144 := slot_norm q144
                                    clear ha hd hst
                                    exact StepI.pure (v := .bool true) rfl rfl (by go_simp) ⟨rfl, hI⟩
                                  · intro us au w1 k21 hlo hhi ha hd hst hI
                                    obtain rfl : k21 = 0 := by omega
                                    have e20 := hd 20 _ (by kernel_rfl) rfl
                                    have q145 := slot_at (t := 145) 20 ha (by kernel_rfl) (by kernel_rfl) (by kernel_rfl) e20
                                    have p145 := slot_norm q145
                                    clear ha hd hst
                                    exact StepI.pure (v := .bool true) rfl rfl (by go_simp) ⟨rfl, hI⟩
                                  · intro us au w1 k22 hlo hhi ha hd hst hI
                                    obtain rfl : k22 = 0 := by omega
                                    have e21 := hd 21 _ (by kernel_rfl) rfl
                                    have hg := slot_at (t := 146) 21 ha (by kernel_rfl) (by kernel_rfl) (by kernel_rfl) e21
                                    exact StepI.skip rfl (unwanted_at rfl rfl hg rfl) ⟨rfl, hI⟩
                                  · intro us au w1 k23 hlo hhi ha hd hst hI
                                    obtain rfl : k23 = 0 := by omega
                                    have e21 := hd 21 _ (by kernel_rfl) rfl
                                    have hg := slot_at (t := 146) 21 ha (by kernel_rfl) (by kernel_rfl) (by kernel_rfl) e21
                                    exact StepI.skip rfl (unwanted_at rfl rfl hg rfl) ⟨rfl, hI⟩
                                  · intro us au w1 k24 hlo hhi ha hd hst hI
                                    obtain rfl : k24 = 0 := by omega
                                    have e21 := hd 21 _ (by kernel_rfl) rfl
                                    have hg := slot_at (t := 146) 21 ha (by kernel_rfl) (by kernel_rfl) (by kernel_rfl) e21
                                    exact StepI.skip rfl (unwanted_at rfl rfl hg rfl) ⟨rfl, hI⟩
                                  · intro us au w1 k25 hlo hhi ha hd hst hI
                                    obtain rfl : k25 = 0 := by omega
                                    have e21 := hd 21 _ (by kernel_rfl) rfl
                                    have hg := slot_at (t := 146) 21 ha (by kernel_rfl) (by kernel_rfl) (by kernel_rfl) e21
                                    exact StepI.skip rfl (unwanted_at rfl rfl hg rfl) ⟨rfl, hI⟩
                                  · intro us au w1 k26 hlo hhi ha hd hst hI
                                    obtain rfl : k26 = 0 := by omega
                                    have e21 := hd 21 _ (by kernel_rfl) rfl
                                    have hg := slot_at (t := 146) 21 ha (by kernel_rfl) (by kernel_rfl) (by kernel_rfl) e21
                                    exact StepI.skip rfl (unwanted_at rfl rfl hg rfl) ⟨rfl, hI⟩
                                  · intro us au w1 k27 hlo hhi ha hd hst hI
                                    obtain rfl : k27 = 0 := by omega
                                    have e21 := hd 21 _ (by kernel_rfl) rfl
                                    have hg := slot_at (t := 146) 21 ha (by kernel_rfl) (by kernel_rfl) (by kernel_rfl) e21
                                    exact StepI.skip rfl (unwanted_at rfl rfl hg rfl) ⟨rfl, hI⟩
                                  · intro us au w1 k28 hlo hhi ha hd hst hI
                                    obtain rfl : k28 = 0 := by omega
                                    have e21 := hd 21 _ (by kernel_rfl) rfl
                                    have hg := slot_at (t := 146) 21 ha (by kernel_rfl) (by kernel_rfl) (by kernel_rfl) e21
                                    exact StepI.skip rfl (unwanted_at rfl rfl hg rfl) ⟨rfl, hI⟩
                                  · intro us au w1 k29 hlo hhi ha hd hst hI
                                    obtain rfl : k29 = 0 := by omega
                                    have e21 := hd 21 _ (by kernel_rfl) rfl
                                    have hg := slot_at (t := 146) 21 ha (by kernel_rfl) (by kernel_rfl) (by kernel_rfl) e21
                                    exact StepI.skip rfl (unwanted_at rfl rfl hg rfl) ⟨rfl, hI⟩
                                  · intro us au w1 k30 hlo hhi ha hd hst hI
                                    obtain rfl : k30 = 0 := by omega
                                    have e21 := hd 21 _ (by kernel_rfl) rfl
                                    have hg := slot_at (t := 146) 21 ha (by kernel_rfl) (by kernel_rfl) (by kernel_rfl) e21
                                    exact StepI.skip rfl (unwanted_at rfl rfl hg rfl) ⟨rfl, hI⟩
                                  · intro us au w1 k31 hlo hhi ha hd hst hI
                                    obtain rfl : k31 = 0 := by omega
                                    have e21 := hd 21 _ (by kernel_rfl) rfl
                                    have e30 := hd 30 _ (by kernel_rfl) rfl
                                    have q146 := slot_at (t := 146) 21 ha (by kernel_rfl) (by kernel_rfl) (by kernel_rfl) e21
                                    have p146 := slot_norm q146
                                    have q155 := slot_at (t := 155) 30 ha (by kernel_rfl) (by kernel_rfl) (by kernel_rfl) e30
                                    have p155 := slot_norm q155
                                    clear ha hd hst
                                    exact StepI.pure (v := .bool true) rfl rfl (by go_simp) ⟨rfl, hI⟩
                                case done =>
                                  intro us w1 hI hd
                                  have e31 := hd 31 _ (by decide) rfl
                                  have E31 := Lib.hid e31
                                  have HI9 := Lib.hid hI
                                  clear hd e31 hI
                                  simp only [putAll]
                                  go_simp
                                  go_wp2
                                  go_meet
                                  exact ⟨by rw [E31.out, HBO.out]; first | done | rfl, HI9.out⟩
                              · have q4 : decide ((i : Int) < LO) = false := decide_eq_false hz
                                have HBO : Hid (badO b i = decide (FQ ≤ (i : Int))) := by
                                  show _ = _
                                  rw [badO_eval (b := b) (i := i) HX.out HY.out (HZ.out.trans q4)]
                                  cases decide (FQ ≤ (i : Int)) <;> rfl
                                clear hz
                                go_wp2
                                refine wp_region_ph (by kernel_rfl) [] [.span 0 0, .span 0 0, .span 0 0, .span 0 0, .span 0 0, .span 0 0, .span 0 0, .span 0 0, .span 0 0, .span 0 0, .span 0 0, .span 0 0, .span 0 0, .span 0 0, .span 0 0, .span 0 0, .span 0 0, .span 0 0, .span 0 0, .span 0 0, .span 0 0, .span 0 0, .span 0 0, .span 0 0, .span 0 0, .span 0 0, .span 0 0, .span 0 0, .span 0 0, .span 0 0, .span 0 0, .span 0 0] [fun z9 => z9 = .int .i64 (i : Int), fun z9 => z9 = .bool true, fun z9 => z9 = .bool true, fun z9 => z9 = .slice (some ⟨blk, o1, none⟩) N1 c1, fun z9 => z9 = .int .i64 (i : Int), fun z9 => z9 = .int .i64 (r1 : Int), fun z9 => z9 = .int .i64 (rp : Int), fun z9 => z9 = .int .i64 (i : Int), fun z9 => z9 = .int .i64 (r1 : Int), fun z9 => z9 = .slice (some ⟨blk, o1 + rp, none⟩) 20 (c1 - rp), fun z9 => z9 = .string SP, fun z9 => z9 = .slice (some ⟨blk, o1 + r1, none⟩) 20 (c1 - r1), fun z9 => z9 = .string SC, fun z9 => z9 = .bool false, fun z9 => z9 = .bool false, fun z9 => z9 = .bool false, fun z9 => z9 = .int .i64 (i : Int), fun z9 => z9 = .int .u64 (i : Int), fun z9 => z9 = .int .u64 LO, fun z9 => z9 = .bool false, fun z9 => z9 = .bool false, fun z9 => z9 = .bool false, fun z9 => z9 = .int .i64 (i : Int), fun z9 => z9 = .int .u64 (i : Int), fun z9 => z9 = .slice (some ⟨bf, of, none⟩) 256 cc, fun z9 => z9 = .slice (some ⟨blk, o1 + r1, none⟩) 20 (c1 - r1), fun z9 => z9 = .pointer (some ⟨blk, o1 + r1, none⟩), fun z9 => z9 = .int .u8 (q : Int), fun z9 => z9 = .pointer (some ⟨bf, of + q, none⟩), fun z9 => z9 = .int .u64 FQ, fun z9 => z9 = .bool (decide (FQ ≤ (i : Int))), fun z9 => z9 = .bool (decide (FQ ≤ (i : Int)))] ((fun _ w => w = wr.drew)) (by kernel_rfl) (by kernel_rfl) (by kernel_rfl) (by kernel_rfl) (by kernel_rfl) (by kernel_rfl) rfl rfl (rfl) ?steps ?done
                                case steps =>
                                  refine ⟨?_, ?_, ?_, ?_, ?_, ?_, ?_, ?_, ?_, ?_, ?_, ?_, ?_, ?_, ?_, ?_, ?_, ?_, ?_, ?_, ?_, ?_, ?_, ?_, ?_, ?_, ?_, ?_, ?_, ?_, ?_, ?_, trivial⟩
                                  · intro us au w1 k0 hlo hhi ha hd hst hI
                                    obtain rfl : k0 = 0 := by omega
                                    have q16 := slot_far (t := 16) (v := .int .i64 (i : Int)) ha (by kernel_rfl) (by kernel_rfl)
                                    have p16 := slot_norm q16
                                    clear ha hd hst
                                    exact StepI.pure (v := .int .i64 (i : Int)) rfl rfl (by go_simp) ⟨rfl, hI⟩
                                  · intro us au w1 k1 hlo hhi ha hd hst hI
                                    obtain rfl : k1 = 0 := by omega
                                    have e0 := hd 0 _ (by kernel_rfl) rfl
                                    have q125 := slot_at (t := 125) 0 ha (by kernel_rfl) (by kernel_rfl) (by kernel_rfl) e0
                                    have p125 := slot_norm q125
                                    clear ha hd hst
                                    exact StepI.pure (v := .bool true) rfl rfl (by go_simp) ⟨rfl, hI⟩
                                  · intro us au w1 k2 hlo hhi ha hd hst hI
                                    obtain rfl : k2 = 0 := by omega
                                    have e1 := hd 1 _ (by kernel_rfl) rfl
                                    have q126 := slot_at (t := 126) 1 ha (by kernel_rfl) (by kernel_rfl) (by kernel_rfl) e1
                                    have p126 := slot_norm q126
                                    clear ha hd hst
                                    exact StepI.pure (v := .bool true) rfl rfl (by go_simp) ⟨rfl, hI⟩
                                  · intro us au w1 k3 hlo hhi ha hd hst hI
                                    obtain rfl : k3 = 0 := by omega
                                    have e2 := hd 2 _ (by kernel_rfl) rfl
                                    have q8 := slot_far (t := 8) (v := .slice (some ⟨blk, o1, none⟩) N1 c1) ha (by kernel_rfl) (by kernel_rfl)
                                    have p8 := slot_norm q8
                                    have hg := slot_at (t := 127) 2 ha (by kernel_rfl) (by kernel_rfl) (by kernel_rfl) e2
                                    clear ha hd hst
                                    exact StepI.pure (v := .slice (some ⟨blk, o1, none⟩) N1 c1) rfl (wanted_at rfl rfl hg) (by go_simp) ⟨rfl, hI⟩
                                  · intro us au w1 k4 hlo hhi ha hd hst hI
                                    obtain rfl : k4 = 0 := by omega
                                    have e2 := hd 2 _ (by kernel_rfl) rfl
                                    have q16 := slot_far (t := 16) (v := .int .i64 (i : Int)) ha (by kernel_rfl) (by kernel_rfl)
                                    have p16 := slot_norm q16
                                    have hg := slot_at (t := 127) 2 ha (by kernel_rfl) (by kernel_rfl) (by kernel_rfl) e2
                                    clear ha hd hst
                                    exact StepI.pure (v := .int .i64 (i : Int)) rfl (wanted_at rfl rfl hg) (by go_simp) ⟨rfl, hI⟩
                                  · intro us au w1 k5 hlo hhi ha hd hst hI
                                    obtain rfl : k5 = 0 := by omega
                                    have e4 := hd 4 _ (by kernel_rfl) rfl
                                    have e2 := hd 2 _ (by kernel_rfl) rfl
                                    have q129 := slot_at (t := 129) 4 ha (by kernel_rfl) (by kernel_rfl) (by kernel_rfl) e4
                                    have p129 := slot_norm q129
                                    have hg := slot_at (t := 127) 2 ha (by kernel_rfl) (by kernel_rfl) (by kernel_rfl) e2
                                    clear ha hd hst
                                    exact StepI.pure (v := .int .i64 (r1 : Int)) rfl (wanted_at rfl rfl hg) (by go_simp) ⟨rfl, hI⟩
                                  · intro us au w1 k6 hlo hhi ha hd hst hI
                                    obtain rfl : k6 = 0 := by omega
                                    have e5 := hd 5 _ (by kernel_rfl) rfl
                                    have e2 := hd 2 _ (by kernel_rfl) rfl
                                    have q130 := slot_at (t := 130) 5 ha (by kernel_rfl) (by kernel_rfl) (by kernel_rfl) e5
                                    have p130 := slot_norm q130
                                    have hg := slot_at (t := 127) 2 ha (by kernel_rfl) (by kernel_rfl) (by kernel_rfl) e2
                                    clear ha hd hst
                                    exact StepI.pure (v := .int .i64 (rp : Int)) rfl (wanted_at rfl rfl hg) (by go_simp) ⟨rfl, hI⟩
                                  · intro us au w1 k7 hlo hhi ha hd hst hI
                                    obtain rfl : k7 = 0 := by omega
                                    have e2 := hd 2 _ (by kernel_rfl) rfl
                                    have q16 := slot_far (t := 16) (v := .int .i64 (i : Int)) ha (by kernel_rfl) (by kernel_rfl)
                                    have p16 := slot_norm q16
                                    have hg := slot_at (t := 127) 2 ha (by kernel_rfl) (by kernel_rfl) (by kernel_rfl) e2
                                    clear ha hd hst
                                    exact StepI.pure (v := .int .i64 (i : Int)) rfl (wanted_at rfl rfl hg) (by go_simp) ⟨rfl, hI⟩
                                  · intro us au w1 k8 hlo hhi ha hd hst hI
                                    obtain rfl : k8 = 0 := by omega
                                    have e7 := hd 7 _ (by kernel_rfl) rfl
                                    have e2 := hd 2 _ (by kernel_rfl) rfl
                                    have q132 := slot_at (t := 132) 7 ha (by kernel_rfl) (by kernel_rfl) (by kernel_rfl) e7
                                    have p132 := slot_norm q132
                                    have hg := slot_at (t := 127) 2 ha (by kernel_rfl) (by kernel_rfl) (by kernel_rfl) e2
                                    clear ha hd hst
                                    exact StepI.pure (v := .int .i64 (r1 : Int)) rfl (wanted_at rfl rfl hg) (by go_simp) ⟨rfl, hI⟩
                                  · intro us au w1 k9 hlo hhi ha hd hst hI
                                    obtain rfl : k9 = 0 := by omega
                                    have e3 := hd 3 _ (by kernel_rfl) rfl
                                    have e6 := hd 6 _ (by kernel_rfl) rfl
                                    have e8 := hd 8 _ (by kernel_rfl) rfl
                                    have e2 := hd 2 _ (by kernel_rfl) rfl
                                    have q128 := slot_at (t := 128) 3 ha (by kernel_rfl) (by kernel_rfl) (by kernel_rfl) e3
                                    have p128 := slot_norm q128
                                    have q131 := slot_at (t := 131) 6 ha (by kernel_rfl) (by kernel_rfl) (by kernel_rfl) e6
                                    have p131 := slot_norm q131
                                    have q133 := slot_at (t := 133) 8 ha (by kernel_rfl) (by kernel_rfl) (by kernel_rfl) e8
                                    have p133 := slot_norm q133
                                    have hg := slot_at (t := 127) 2 ha (by kernel_rfl) (by kernel_rfl) (by kernel_rfl) e2
                                    clear ha hd hst
                                    exact StepI.pure (v := .slice (some ⟨blk, o1 + rp, none⟩) 20 (c1 - rp)) rfl (wanted_at rfl rfl hg) (by go_simp) ⟨rfl, hI⟩
                                  · intro us au w1 k10 hlo hhi ha hd hst hI
                                    obtain rfl : k10 = 0 := by omega
                                    have e9 := hd 9 _ (by kernel_rfl) rfl
                                    have e2 := hd 2 _ (by kernel_rfl) rfl
                                    have q134 := slot_at (t := 134) 9 ha (by kernel_rfl) (by kernel_rfl) (by kernel_rfl) e9
                                    have p134 := slot_norm q134
                                    have hg := slot_at (t := 127) 2 ha (by kernel_rfl) (by kernel_rfl) (by kernel_rfl) e2
                                    clear ha hd hst
                                    have hcv := HCP.out wr.drew rfl
                                    exact StepI.pure (v := .string SP) rfl (wanted_at rfl rfl hg) (by go_simp) ⟨rfl, hI⟩
                                  · intro us au w1 k11 hlo hhi ha hd hst hI
                                    obtain rfl : k11 = 0 := by omega
                                    have e2 := hd 2 _ (by kernel_rfl) rfl
                                    have q17 := slot_far (t := 17) (v := .slice (some ⟨blk, o1 + r1, none⟩) 20 (c1 - r1)) ha (by kernel_rfl) (by kernel_rfl)
                                    have p17 := slot_norm q17
                                    have hg := slot_at (t := 127) 2 ha (by kernel_rfl) (by kernel_rfl) (by kernel_rfl) e2
                                    clear ha hd hst
                                    exact StepI.pure (v := .slice (some ⟨blk, o1 + r1, none⟩) 20 (c1 - r1)) rfl (wanted_at rfl rfl hg) (by go_simp) ⟨rfl, hI⟩
                                  · intro us au w1 k12 hlo hhi ha hd hst hI
                                    obtain rfl : k12 = 0 := by omega
                                    have e11 := hd 11 _ (by kernel_rfl) rfl
                                    have e2 := hd 2 _ (by kernel_rfl) rfl
                                    have q136 := slot_at (t := 136) 11 ha (by kernel_rfl) (by kernel_rfl) (by kernel_rfl) e11
                                    have p136 := slot_norm q136
                                    have hg := slot_at (t := 127) 2 ha (by kernel_rfl) (by kernel_rfl) (by kernel_rfl) e2
                                    clear ha hd hst
                                    have hcv := HCC.out wr.drew rfl
                                    exact StepI.pure (v := .string SC) rfl (wanted_at rfl rfl hg) (by go_simp) ⟨rfl, hI⟩
                                  · intro us au w1 k13 hlo hhi ha hd hst hI
                                    obtain rfl : k13 = 0 := by omega
                                    have e10 := hd 10 _ (by kernel_rfl) rfl
                                    have e12 := hd 12 _ (by kernel_rfl) rfl
                                    have e2 := hd 2 _ (by kernel_rfl) rfl
                                    have q135 := slot_at (t := 135) 10 ha (by kernel_rfl) (by kernel_rfl) (by kernel_rfl) e10
                                    have p135 := slot_norm q135
                                    have q137 := slot_at (t := 137) 12 ha (by kernel_rfl) (by kernel_rfl) (by kernel_rfl) e12
                                    have p137 := slot_norm q137
                                    have hg := slot_at (t := 127) 2 ha (by kernel_rfl) (by kernel_rfl) (by kernel_rfl) e2
                                    clear ha hd hst
                                    exact StepI.pure (v := .bool false) rfl (wanted_at rfl rfl hg) (by go_simp) ⟨rfl, hI⟩
                                  · intro us au w1 k14 hlo hhi ha hd hst hI
                                    obtain rfl : k14 = 0 := by omega
                                    have e2 := hd 2 _ (by kernel_rfl) rfl
                                    have e13 := hd 13 _ (by kernel_rfl) rfl
                                    have q127 := slot_at (t := 127) 2 ha (by kernel_rfl) (by kernel_rfl) (by kernel_rfl) e2
                                    have p127 := slot_norm q127
                                    have q138 := slot_at (t := 138) 13 ha (by kernel_rfl) (by kernel_rfl) (by kernel_rfl) e13
                                    have p138 := slot_norm q138
                                    clear ha hd hst
                                    exact StepI.pure (v := .bool false) rfl rfl (by go_simp) ⟨rfl, hI⟩
                                  · intro us au w1 k15 hlo hhi ha hd hst hI
                                    obtain rfl : k15 = 0 := by omega
                                    have e14 := hd 14 _ (by kernel_rfl) rfl
                                    have q139 := slot_at (t := 139) 14 ha (by kernel_rfl) (by kernel_rfl) (by kernel_rfl) e14
                                    have p139 := slot_norm q139
                                    clear ha hd hst
                                    exact StepI.pure (v := .bool false) rfl rfl (by go_simp) ⟨rfl, hI⟩
                                  · intro us au w1 k16 hlo hhi ha hd hst hI
                                    obtain rfl : k16 = 0 := by omega
                                    have e15 := hd 15 _ (by kernel_rfl) rfl
                                    have q16 := slot_far (t := 16) (v := .int .i64 (i : Int)) ha (by kernel_rfl) (by kernel_rfl)
                                    have p16 := slot_norm q16
                                    have hg := slot_at (t := 140) 15 ha (by kernel_rfl) (by kernel_rfl) (by kernel_rfl) e15
                                    clear ha hd hst
                                    exact StepI.pure (v := .int .i64 (i : Int)) rfl (wanted_at rfl rfl hg) (by go_simp) ⟨rfl, hI⟩
                                  · intro us au w1 k17 hlo hhi ha hd hst hI
                                    obtain rfl : k17 = 0 := by omega
                                    have e16 := hd 16 _ (by kernel_rfl) rfl
                                    have e15 := hd 15 _ (by kernel_rfl) rfl
                                    have q141 := slot_at (t := 141) 16 ha (by kernel_rfl) (by kernel_rfl) (by kernel_rfl) e16
                                    have p141 := slot_norm q141
                                    have hg := slot_at (t := 140) 15 ha (by kernel_rfl) (by kernel_rfl) (by kernel_rfl) e15
                                    clear ha hd hst
                                    exact StepI.pure (v := .int .u64 (i : Int)) rfl (wanted_at rfl rfl hg) (by go_simp) ⟨rfl, hI⟩
                                  · intro us au w1 k18 hlo hhi ha hd hst hI
                                    obtain rfl : k18 = 0 := by omega
                                    have e15 := hd 15 _ (by kernel_rfl) rfl
                                    have q18 := slot_far (t := 18) (v := .int .u64 LO) ha (by kernel_rfl) (by kernel_rfl)
                                    have p18 := slot_norm q18
                                    have hg := slot_at (t := 140) 15 ha (by kernel_rfl) (by kernel_rfl) (by kernel_rfl) e15
                                    clear ha hd hst
                                    exact StepI.pure (v := .int .u64 LO) rfl (wanted_at rfl rfl hg) (by go_simp) ⟨rfl, hI⟩
                                  · intro us au w1 k19 hlo hhi ha hd hst hI
                                    obtain rfl : k19 = 0 := by omega
                                    have e17 := hd 17 _ (by kernel_rfl) rfl
                                    have e18 := hd 18 _ (by kernel_rfl) rfl
                                    have e15 := hd 15 _ (by kernel_rfl) rfl
                                    have q142 := slot_at (t := 142) 17 ha (by kernel_rfl) (by kernel_rfl) (by kernel_rfl) e17
                                    have p142 := slot_norm q142
                                    have q143 := slot_at (t := 143) 18 ha (by kernel_rfl) (by kernel_rfl) (by kernel_rfl) e18
                                    have p143 := slot_norm q143
                                    have hg := slot_at (t := 140) 15 ha (by kernel_rfl) (by kernel_rfl) (by kernel_rfl) e15
                                    clear ha hd hst
                                    exact StepI.pure (v := .bool false) rfl (wanted_at rfl rfl hg) (by go_simp) ⟨rfl, hI⟩
                                  · intro us au w1 k20 hlo hhi ha hd hst hI
                                    obtain rfl : k20 = 0 := by omega
                                    have e15 := hd 15 _ (by kernel_rfl) rfl
                                    have e19 := hd 19 _ (by kernel_rfl) rfl
                                    have q140 := slot_at (t := 140) 15 ha (by kernel_rfl) (by kernel_rfl) (by kernel_rfl) e15
                                    have p140 := slot_norm q140
                                    have q144 := slot_at (t := 144) 19 ha (by kernel_rfl) (by kernel_rfl) (by kernel_rfl) e19
                                    have p144 := slot_norm q144
                                    clear ha hd hst
                                    exact StepI.pure (v := .bool false) rfl rfl (by go_simp) ⟨rfl, hI⟩
                                  · intro us au w1 k21 hlo hhi ha hd hst hI
                                    obtain rfl : k21 = 0 := by omega
                                    have e20 := hd 20 _ (by kernel_rfl) rfl
                                    have q145 := slot_at (t := 145) 20 ha (by kernel_rfl) (by kernel_rfl) (by kernel_rfl) e20
                                    have p145 := slot_norm q145
                                    clear ha hd hst
                                    exact StepI.pure (v := .bool false) rfl rfl (by go_simp) ⟨rfl, hI⟩
                                  · intro us au w1 k22 hlo hhi ha hd hst hI
                                    obtain rfl : k22 = 0 := by omega
                                    have e21 := hd 21 _ (by kernel_rfl) rfl
                                    have q16 := slot_far (t := 16) (v := .int .i64 (i : Int)) ha (by kernel_rfl) (by kernel_rfl)
                                    have p16 := slot_norm q16
                                    have hg := slot_at (t := 146) 21 ha (by kernel_rfl) (by kernel_rfl) (by kernel_rfl) e21
                                    clear ha hd hst
                                    exact StepI.pure (v := .int .i64 (i : Int)) rfl (wanted_at rfl rfl hg) (by go_simp) ⟨rfl, hI⟩
                                  · intro us au w1 k23 hlo hhi ha hd hst hI
                                    obtain rfl : k23 = 0 := by omega
                                    have e22 := hd 22 _ (by kernel_rfl) rfl
                                    have e21 := hd 21 _ (by kernel_rfl) rfl
                                    have q147 := slot_at (t := 147) 22 ha (by kernel_rfl) (by kernel_rfl) (by kernel_rfl) e22
                                    have p147 := slot_norm q147
                                    have hg := slot_at (t := 146) 21 ha (by kernel_rfl) (by kernel_rfl) (by kernel_rfl) e21
                                    clear ha hd hst
                                    exact StepI.pure (v := .int .u64 (i : Int)) rfl (wanted_at rfl rfl hg) (by go_simp) ⟨rfl, hI⟩
                                  · intro us au w1 k24 hlo hhi ha hd hst hI
                                    obtain rfl : k24 = 0 := by omega
                                    have e21 := hd 21 _ (by kernel_rfl) rfl
                                    have q4 := slot_far (t := 4) (v := .slice (some ⟨bf, of, none⟩) 256 cc) ha (by kernel_rfl) (by kernel_rfl)
                                    have p4 := slot_norm q4
                                    have hg := slot_at (t := 146) 21 ha (by kernel_rfl) (by kernel_rfl) (by kernel_rfl) e21
                                    clear ha hd hst
                                    exact StepI.pure (v := .slice (some ⟨bf, of, none⟩) 256 cc) rfl (wanted_at rfl rfl hg) (by go_simp) ⟨rfl, hI⟩
                                  · intro us au w1 k25 hlo hhi ha hd hst hI
                                    obtain rfl : k25 = 0 := by omega
                                    have e21 := hd 21 _ (by kernel_rfl) rfl
                                    have q17 := slot_far (t := 17) (v := .slice (some ⟨blk, o1 + r1, none⟩) 20 (c1 - r1)) ha (by kernel_rfl) (by kernel_rfl)
                                    have p17 := slot_norm q17
                                    have hg := slot_at (t := 146) 21 ha (by kernel_rfl) (by kernel_rfl) (by kernel_rfl) e21
                                    clear ha hd hst
                                    exact StepI.pure (v := .slice (some ⟨blk, o1 + r1, none⟩) 20 (c1 - r1)) rfl (wanted_at rfl rfl hg) (by go_simp) ⟨rfl, hI⟩
                                  · intro us au w1 k26 hlo hhi ha hd hst hI
                                    obtain rfl : k26 = 0 := by omega
                                    have e25 := hd 25 _ (by kernel_rfl) rfl
                                    have e21 := hd 21 _ (by kernel_rfl) rfl
                                    have q150 := slot_at (t := 150) 25 ha (by kernel_rfl) (by kernel_rfl) (by kernel_rfl) e25
                                    have p150 := slot_norm q150
                                    have hg := slot_at (t := 146) 21 ha (by kernel_rfl) (by kernel_rfl) (by kernel_rfl) e21
                                    clear ha hd hst
                                    exact StepI.pure (v := .pointer (some ⟨blk, o1 + r1, none⟩)) rfl (wanted_at rfl rfl hg) (by go_simp) ⟨rfl, hI⟩
                                  · intro us au w1 k27 hlo hhi ha hd hst hI
                                    obtain rfl : k27 = 0 := by omega
                                    have e26 := hd 26 _ (by kernel_rfl) rfl
                                    have e21 := hd 21 _ (by kernel_rfl) rfl
                                    have q151 := slot_at (t := 151) 26 ha (by kernel_rfl) (by kernel_rfl) (by kernel_rfl) e26
                                    have p151 := slot_norm q151
                                    have hg := slot_at (t := 146) 21 ha (by kernel_rfl) (by kernel_rfl) (by kernel_rfl) e21
                                    clear ha hd hst
                                    have kx1 := KX.out
                                    exact StepI.pure (v := .int .u8 (q : Int)) rfl (wanted_at rfl rfl hg) (by go_simp) ⟨rfl, hI⟩
                                  · intro us au w1 k28 hlo hhi ha hd hst hI
                                    obtain rfl : k28 = 0 := by omega
                                    have e24 := hd 24 _ (by kernel_rfl) rfl
                                    have e27 := hd 27 _ (by kernel_rfl) rfl
                                    have e21 := hd 21 _ (by kernel_rfl) rfl
                                    have q149 := slot_at (t := 149) 24 ha (by kernel_rfl) (by kernel_rfl) (by kernel_rfl) e24
                                    have p149 := slot_norm q149
                                    have q152 := slot_at (t := 152) 27 ha (by kernel_rfl) (by kernel_rfl) (by kernel_rfl) e27
                                    have p152 := slot_norm q152
                                    have hg := slot_at (t := 146) 21 ha (by kernel_rfl) (by kernel_rfl) (by kernel_rfl) e21
                                    clear ha hd hst
                                    have hq7 : (q : Int) < 256 := by omega
                                    exact StepI.pure (v := .pointer (some ⟨bf, of + q, none⟩)) rfl (wanted_at rfl rfl hg) (by go_simp) ⟨rfl, hI⟩
                                  · intro us au w1 k29 hlo hhi ha hd hst hI
                                    obtain rfl : k29 = 0 := by omega
                                    have e28 := hd 28 _ (by kernel_rfl) rfl
                                    have e21 := hd 21 _ (by kernel_rfl) rfl
                                    have q153 := slot_at (t := 153) 28 ha (by kernel_rfl) (by kernel_rfl) (by kernel_rfl) e28
                                    have p153 := slot_norm q153
                                    have hg := slot_at (t := 146) 21 ha (by kernel_rfl) (by kernel_rfl) (by kernel_rfl) e21
                                    clear ha hd hst
                                    have kf1 := KF.out
                                    exact StepI.pure (v := .int .u64 FQ) rfl (wanted_at rfl rfl hg) (by go_simp) ⟨rfl, hI⟩
                                  · intro us au w1 k30 hlo hhi ha hd hst hI
                                    obtain rfl : k30 = 0 := by omega
                                    have e23 := hd 23 _ (by kernel_rfl) rfl
                                    have e29 := hd 29 _ (by kernel_rfl) rfl
                                    have e21 := hd 21 _ (by kernel_rfl) rfl
                                    have q148 := slot_at (t := 148) 23 ha (by kernel_rfl) (by kernel_rfl) (by kernel_rfl) e23
                                    have p148 := slot_norm q148
                                    have q154 := slot_at (t := 154) 29 ha (by kernel_rfl) (by kernel_rfl) (by kernel_rfl) e29
                                    have p154 := slot_norm q154
                                    have hg := slot_at (t := 146) 21 ha (by kernel_rfl) (by kernel_rfl) (by kernel_rfl) e21
                                    clear ha hd hst
                                    exact StepI.pure (v := .bool (decide (FQ ≤ (i : Int)))) rfl (wanted_at rfl rfl hg) (by go_simp) ⟨rfl, hI⟩
                                  · intro us au w1 k31 hlo hhi ha hd hst hI
                                    obtain rfl : k31 = 0 := by omega
                                    have e21 := hd 21 _ (by kernel_rfl) rfl
                                    have e30 := hd 30 _ (by kernel_rfl) rfl
                                    have q146 := slot_at (t := 146) 21 ha (by kernel_rfl) (by kernel_rfl) (by kernel_rfl) e21
                                    have p146 := slot_norm q146
                                    have q155 := slot_at (t := 155) 30 ha (by kernel_rfl) (by kernel_rfl) (by kernel_rfl) e30
                                    have p155 := slot_norm q155
                                    clear ha hd hst
                                    exact StepI.pure (v := .bool (decide (FQ ≤ (i : Int)))) rfl rfl (by go_simp) ⟨rfl, hI⟩
                                case done =>
                                  intro us w1 hI hd
                                  have e31 := hd 31 _ (by decide) rfl
                                  have E31 := Lib.hid e31
                                  have HI9 := Lib.hid hI
                                  clear hd e31 hI
                                  simp only [putAll]
                                  go_simp
                                  go_wp2
                                  go_meet
                                  exact ⟨by rw [E31.out, HBO.out]; first | done | rfl, HI9.out⟩
                        case rest =>
                          obtain ⟨rfl, hw41⟩ := hcut
                          have HO6 : Hid (OwnS wc w.heap.size 71 1 (.slice (some ⟨bf, of, none⟩) 256 cc) 256 (fansV b 256)) := by show OwnS _ _ _ _ _ _ _; rw [hw41]; exact HO.out.drew
                          have HC16 : Hid (Cel wc g1 45 3 (gotF (.slice none 0 0) ⟨#[]⟩ 0)) := by show Cel _ _ _ _ _; rw [hw41]; exact HC1.out.drew
                          have HC26 : Hid (Cel wc g2 45 3 (gotF (.slice A5 i cc5) ⟨#[]⟩ 0)) := by show Cel _ _ _ _ _; rw [hw41]; exact HC2.out.drew
                          have HR6 : Hid (OwnS wc w.heap.size 30 5 (.slice A5 i cc5) i (entsV b n i)) := by show OwnS _ _ _ _ _ _ _; rw [hw41]; exact HR.out.drew
                          have HB6 : Hid (Below w.heap.size w wc) := by show Below _ _ _; rw [hw41]; exact HBL.out.drew
                          clear hw41 HO HC1 HC2 HR HBL HCC HFC KX KF
                          generalize wc = w6 at *
                          cases hbo : badO b i
                          · have HBO := Lib.hid hbo
                            clear hbo
                            obtain ⟨r4, hr4⟩ : ∃ r, 4 * i = r := ⟨_, rfl⟩
                            have hn4 := HN4.out
                            have s14 : IntKind.i64.wrap (4 * (i : Int)) = (r4 : Int) := by rw [IntWalk.i64_in _ (by omega)]; omega
                            have s15 : IntKind.i64.wrap ((r4 : Int) + 4) = ((r4 + 4 : Nat) : Int) := by rw [IntWalk.i64_in _ (by omega)]; omega
                            have l1 : r4 + 4 ≤ N3 := by have h1 := HPL.out; have h2 := HW.out; omega
                            have l2 : r4 + 4 ≤ c3 := by have h1 := HPL.out; have h2 := HW.out; have h3 := HLC.out; omega
                            have l3 : ¬ c3 = r4 := by omega
                            have t4 : r4 + 4 - r4 = 4 := by omega
                            have l4 : r4 ≤ r4 + 4 := by omega
                            have HR4 := Lib.hid hr4
                            have hgl := getL_four b (1032 + 24 * n + 4 * i) (by rw [HN.out]; have h2 := HW.out; omega)
                            have HGET := Lib.hid (get_any (some ⟨blk, o3 + r4, none⟩) 4 (c3 - r4) ((b.drop (1032 + 24 * n + 4 * i)).take 4) w6 (by rw [show o3 + r4 = off + (1032 + 24 * n + 4 * i) by have h1 := HPL.out; omega]; exact ((HI.out.below HB6.out).drop (1032 + 24 * n + 4 * i)).take 4) (by rw [List.length_take, List.length_drop, HN.out]; have h2 := HW.out; omega) (by decide) ((HB.out.drop _).take 4))
                            rw [hgl] at HGET
                            have hAT0 : n4 b (1032 + 24 * n + 4 * i) = atV b n i := rfl
                            rw [hAT0] at HGET
                            have hab := n4_bd HB.out (1032 + 24 * n + 4 * i)
                            rw [hAT0] at hab
                            clear hr4 hgl hAT0 hn4
                            go_wp2_with fail
                            refine HGET.out.mono ?_
                            rintro e w7 ⟨rfl, rfl⟩
                            by_cases hA : 2147483648 ≤ atV b n i
                            · skip
                              obtain ⟨g2_, g3⟩ := far_ hA
                              have hfb := badF_far hA
                              rw [HKN.out] at g2_ g3 hfb
                              have d6 : decide (2147483648 ≤ atV b n i) = true := decide_eq_true hA
                              have d6p : 2147483648 ≤ atV b n i := hA
                              have hkf1 : k + 1 ≤ f := by rw [← g2_, ← HFW.out]; exact farN_mono b n hlt
                              have s20 : IntKind.u64.wrap (atV b n i - 2147483648) = atV b n i - 2147483648 := by rw [IntKind.wrap_u64]; omega
                              have s21 : IntKind.u64.wrap (k : Int) = (k : Int) := by rw [IntKind.wrap_u64]; have := HN4.out; omega
                              have HEF := Lib.hid (fun h : badF b n i = true => err_acc (b := b) (by rw [HN.out]; exact HLC.out.1) (acc_badF h hlt HNN.out))
                              by_cases e1 : atV b n i - 2147483648 = (k : Int)
                              · have hneq : decide (atV b n i ≠ 2147483648 + (k : Int)) = false := decide_eq_false (by omega)
                                obtain ⟨r5, hr5⟩ : ∃ r, 8 * k = r := ⟨_, rfl⟩
                                have hn4 := HN4.out
                                have s22 : IntKind.i64.wrap (8 * (k : Int)) = (r5 : Int) := by rw [IntWalk.i64_in _ (by omega)]; omega
                                have s23 : IntKind.i64.wrap ((r5 : Int) + 8) = ((r5 + 8 : Nat) : Int) := by rw [IntWalk.i64_in _ (by omega)]; omega
                                have s24 : IntKind.i64.wrap ((k : Int) + 1) = ((k + 1 : Nat) : Int) := by rw [IntWalk.i64_in _ (by omega)]; omega
                                have m1_ : r5 + 8 ≤ N5 := by have h1 := HPL.out; have h2 := HW.out; omega
                                have m2_ : r5 + 8 ≤ c5 := by have h1 := HPL.out; have h2 := HW.out; have h3 := HLC.out; omega
                                have m3_ : ¬ c5 = r5 := by omega
                                have t8 : r5 + 8 - r5 = 8 := by omega
                                have m4_ : r5 ≤ r5 + 8 := by omega
                                have hge := getL_eight b (1032 + 28 * n + 8 * k) (by rw [HN.out]; have h2 := HW.out; omega)
                                have HGE := Lib.hid (get_any (some ⟨blk, o5 + r5, none⟩) 8 (c5 - r5) ((b.drop (1032 + 28 * n + 8 * k)).take 8) w6 (by rw [show o5 + r5 = off + (1032 + 28 * n + 8 * k) by have h1 := HPL.out; omega]; exact ((HI.out.below HB6.out).drop (1032 + 28 * n + 8 * k)).take 8) (by rw [List.length_take, List.length_drop, HN.out]; have h2 := HW.out; omega) (by decide) ((HB.out.drop _).take 8))
                                rw [hge] at HGE
                                have hbe : n4 b (1032 + 28 * n + 8 * k) * 4294967296 + n4 b (1032 + 28 * n + 8 * k + 4) = bigV b n k := rfl
                                have hn8a := n4_bd HB.out (1032 + 28 * n + 8 * k)
                                have hn8b := n4_bd HB.out (1032 + 28 * n + 8 * k + 4)
                                have hbb : 0 ≤ bigV b n k := by rw [← hbe]; omega
                                rw [hbe] at HGE
                                obtain ⟨BIG, hBIG⟩ : ∃ v, bigV b n k = v := ⟨_, rfl⟩
                                rw [hBIG] at HGE hfb g3 hbb
                                clear hge hbe hn8a hn8b hBIG hr5 hn4 hA
                                go_wp2_with fail
                                refine HGE.out.mono ?_
                                rintro e w7 ⟨rfl, rfl⟩
                                by_cases e5 : BIG < 2147483648
                                · have q9 : decide (BIG < 2147483648) = true := decide_eq_true e5
                                  have HE := Lib.hid (HEF.out (by rw [hfb, q9]; cases decide (atV b n i ≠ 2147483648 + (k : Int)) <;> rfl))
                                  clear e5 hfb g2_ g3 e1
                                  have hC := HC16.out
                                  go_wp2_with (refine wpList_store_part (vs := gotA (.slice none 0 0) ⟨#[]⟩ 3) (off := 0) rfl (.tmp 2) (.tmp 190) rfl rfl rfl hC (info_got _ _ _) (Nat.le_refl 3) (gotA_one _ _ _ _ _) ?_; intro w9 hC9 hg9 hs9; have hC7 := got_stored hC9)
                                  exact bodyPost_ret (v := .agg (gotA (.slice none 0 0) ⟨#[]⟩ 3)) (results_cel rfl _ rfl hC7 Try.underlying45 rfl (info_got _ _ _) (Nat.le_refl 3) (fun j hj => gotA_at _ _ _ j hj)) rfl (GotPost.no HE.out (by decide) (HB6.out.grown hg9 HB6.out.size (fun k h => by injection h with h; rw [← h, HG1.out]; exact Nat.le_refl _)))
                                · have q9 : decide (BIG < 2147483648) = false := decide_eq_false e5
                                  by_cases e6 : 4611686018427387904 < BIG
                                  · have q10 : decide (4611686018427387904 < BIG) = true := decide_eq_true e6
                                    have HE := Lib.hid (HEF.out (by rw [hfb, q9, q10]; cases decide (atV b n i ≠ 2147483648 + (k : Int)) <;> rfl))
                                    clear e5 e6 hfb g2_ g3 e1
                                    have hC := HC16.out
                                    go_wp2_with (refine wpList_store_part (vs := gotA (.slice none 0 0) ⟨#[]⟩ 3) (off := 0) rfl (.tmp 2) (.tmp 190) rfl rfl rfl hC (info_got _ _ _) (Nat.le_refl 3) (gotA_one _ _ _ _ _) ?_; intro w9 hC9 hg9 hs9; have hC7 := got_stored hC9)
                                    exact bodyPost_ret (v := .agg (gotA (.slice none 0 0) ⟨#[]⟩ 3)) (results_cel rfl _ rfl hC7 Try.underlying45 rfl (info_got _ _ _) (Nat.le_refl 3) (fun j hj => gotA_at _ _ _ j hj)) rfl (GotPost.no HE.out (by decide) (HB6.out.grown hg9 HB6.out.size (fun k h => by injection h with h; rw [← h, HG1.out]; exact Nat.le_refl _)))
                                  · have q10 : decide (4611686018427387904 < BIG) = false := decide_eq_false e6
                                    have g1 : badF b n i = false := by rw [hfb, q9, q10, hneq]; rfl
                                    clear hfb
                                    have g3' := g3
                                    have HX1 := Lib.hid (fun W (hW : Below w6.heap.size w6 W) => hexR_any (some ⟨blk, o1 + r1, none⟩) 20 (c1 - r1) (idL b i) W (by rw [show o1 + r1 = off + (1032 + 20 * i) by have h1 := HPL.out; have h2 := HR1.out; omega]; exact ((HI.out.below (HB6.out.trans (hW.mono HB6.out.size))).drop (1032 + 20 * i)).take 20) (idL_len (n := n) (by rw [HN.out, HW.out]; omega) hlt) (idL_ok HB.out i) (by decide))
                                    have hgc := getL_four b (1032 + 20 * n + 4 * i) (by rw [HN.out]; have h2 := HW.out; omega)
                                    have HX2 := Lib.hid (fun W (hW : Below w6.heap.size w6 W) => get_any (some ⟨blk, o2 + r4, none⟩) 4 (c2 - r4) ((b.drop (1032 + 20 * n + 4 * i)).take 4) W (by rw [show o2 + r4 = off + (1032 + 20 * n + 4 * i) by have h1 := HPL.out; have h2 := HR4.out; omega]; exact ((HI.out.below (HB6.out.trans (hW.mono HB6.out.size))).drop (1032 + 20 * n + 4 * i)).take 4) (by rw [List.length_take, List.length_drop, HN.out]; have h2 := HW.out; omega) (by decide) ((HB.out.drop _).take 4))
                                    rw [hgc] at HX2
                                    have hcr : n4 b (1032 + 20 * n + 4 * i) = crcA b n i := rfl
                                    rw [hcr] at HX2
                                    have hcb := n4_bd HB.out (1032 + 20 * n + 4 * i)
                                    rw [hcr] at hcb
                                    obtain ⟨r44, hr44⟩ : ∃ r, r4 + 4 = r := ⟨_, rfl⟩
                                    have s16 : IntKind.i64.wrap ((r4 : Int) + 4) = (r44 : Int) := by rw [s15]; omega
                                    have s17 : IntKind.u32.wrap (crcA b n i) = crcA b n i := by rw [IntKind.wrap_u32']; omega
                                    have s18 : IntKind.i64.wrap BIG = BIG := IntWalk.i64_in _ (by omega)
                                    have l5 : r4 ≤ r44 := by omega
                                    have l6 : r44 ≤ c2 := by have h1 := HPL.out; have h2 := HW.out; have h3 := HLC.out; have h4 := HR4.out; omega
                                    have l7 : ¬ c2 = r4 := by omega
                                    have t5 : r44 - r4 = 4 := by omega
                                    have HENT : Hid (entA (entV b n i) = #[.int .i64 0, .slice none 0 0, .string (strOfNums (hexL (idL b i))), .int .i64 BIG, .int .u32 (crcA b n i)]) := by show _ = _; rw [g3]; rfl
                                    obtain ⟨i0, hi, hz0, hz1, hz2⟩ := info_parts info_obj
                                    have HNX := Lib.hid (ok_next HOK.out HBO.out g1)
                                    have HK2 : Hid ((k + 1 : Nat) = farN b n (i + 1)) := by show _ = _; rw [g2_]; first | done | rfl
                                    have s19 : IntKind.i64.wrap ((i : Int) + 1) = ((i + 1 : Nat) : Int) := by rw [IntWalk.i64_in _ (by have := HN4.out; omega)]; omega
                                    clear hgc hcr hr44 s15 g1 g2_ g3 g3'
                                    go_wp2
                                    refine wp_region_ph (by kernel_rfl) [16, 17, 19] [.span 0 1, .span 0 1, .span 0 0, .span 0 0, .span 0 0, .span 0 0, .span 0 0, .span 0 0, .span 0 0, .span 0 0, .span 0 0, .span 0 0, .span 0 0, .span 0 0, .span 0 0, .span 0 0, .phase 0, .phase 1, .span 2 2, .phase 2] [fun z9 => z9 = .pointer (some ⟨g2, 0, none⟩), fun z9 => z9 = .slice A5 i cc5, fun z9 => z9 = .slice (some ⟨blk, o1 + r1, none⟩) 20 (c1 - r1), fun z9 => z9 = .string (strOfNums (hexL (idL b i))), fun z9 => z9 = .slice (some ⟨blk, o2, none⟩) N2 c2, fun z9 => z9 = .int .i64 (i : Int), fun z9 => z9 = .int .i64 (r4 : Int), fun z9 => z9 = .int .i64 (i : Int), fun z9 => z9 = .int .i64 (r4 : Int), fun z9 => z9 = .int .i64 (r44 : Int), fun z9 => z9 = .slice (some ⟨blk, o2 + r4, none⟩) 4 (c2 - r4), fun z9 => z9 = .int .u64 (crcA b n i), fun z9 => z9 = .int .u32 (crcA b n i), fun z9 => z9 = .int .u64 BIG, fun z9 => z9 = .int .i64 BIG, fun z9 => z9 = .agg #[.int .i64 0, .slice none 0 0, .string (strOfNums (hexL (idL b i))), .int .i64 BIG, .int .u32 (crcA b n i)], fun _ => True, fun _ => True, fun z9 => z9 = .pointer (some ⟨g2, 0, none⟩), fun _ => True] (IApp w.heap.size w6 g2 (.slice A5 i cc5) (i + 1) (entsV b n i) (entV b n i)) (by kernel_rfl) (by kernel_rfl) (by kernel_rfl) (by kernel_rfl) (by kernel_rfl) (by kernel_rfl) rfl rfl ((Below.refl _ _).drew) ?steps ?done
                                    case steps =>
                                      refine ⟨?_, ?_, ?_, ?_, ?_, ?_, ?_, ?_, ?_, ?_, ?_, ?_, ?_, ?_, ?_, ?_, ?_, ?_, ?_, ?_, trivial⟩
                                      · intro us au w1 k0 hlo hhi ha hd hst hI
                                        have q14 := slot_far (t := 14) (v := .pointer (some ⟨g2, 0, none⟩)) ha (by kernel_rfl) (by kernel_rfl)
                                        have p14 := slot_norm q14
                                        clear ha hd hst
                                        exact StepI.pure (v := .pointer (some ⟨g2, 0, none⟩)) rfl rfl (by go_simp) ⟨rfl, hI⟩
                                      · intro us au w1 k1 hlo hhi ha hd hst hI
                                        have e0 := hd 0 _ (by kernel_rfl) rfl
                                        have q191 := slot_at (t := 191) 0 ha (by kernel_rfl) (by kernel_rfl) (by kernel_rfl) e0
                                        have p191 := slot_norm q191
                                        clear ha hd hst
                                        have kc : w1.cell? ⟨g2, 0, none⟩ = some (.slice A5 i cc5) := by
                                          rcases (show k1 = 0 ∨ k1 = 1 by omega) with rfl | rfl
                                          · exact (HC26.out.below hI HC26.out.blk).cell 0 (by decide)
                                          · obtain ⟨w9, h9, hw9, _⟩ := hI
                                            rw [hw9]
                                            exact ((HC26.out.below h9 HC26.out.blk).alloc _).cell 0 (by decide)
                                        exact StepI.pure (v := .slice A5 i cc5) rfl rfl (by go_simp) ⟨rfl, hI⟩
                                      · intro us au w1 k2 hlo hhi ha hd hst hI
                                        obtain rfl : k2 = 0 := by omega
                                        have q17 := slot_far (t := 17) (v := .slice (some ⟨blk, o1 + r1, none⟩) 20 (c1 - r1)) ha (by kernel_rfl) (by kernel_rfl)
                                        have p17 := slot_norm q17
                                        clear ha hd hst
                                        exact StepI.pure (v := .slice (some ⟨blk, o1 + r1, none⟩) 20 (c1 - r1)) rfl rfl (by go_simp) ⟨rfl, hI⟩
                                      · intro us au w1 k3 hlo hhi ha hd hst hI
                                        obtain rfl : k3 = 0 := by omega
                                        have e2 := hd 2 _ (by kernel_rfl) rfl
                                        have q193 := slot_at (t := 193) 2 ha (by kernel_rfl) (by kernel_rfl) (by kernel_rfl) e2
                                        have p193 := slot_norm q193
                                        clear ha hd hst
                                        refine StepI.call (f := 17) (args := #[.slice (some ⟨blk, o1 + r1, none⟩) 20 (c1 - r1)]) rfl rfl (by go_simp) ?_
                                        refine (HX1.out w1 hI).mono ?_
                                        rintro e w5 ⟨rfl, hb5⟩
                                        exact ⟨_, rfl, rfl, Below.trans hI (hb5.mono (Below.size hI))⟩
                                      · intro us au w1 k4 hlo hhi ha hd hst hI
                                        obtain rfl : k4 = 0 := by omega
                                        have q9 := slot_far (t := 9) (v := .slice (some ⟨blk, o2, none⟩) N2 c2) ha (by kernel_rfl) (by kernel_rfl)
                                        have p9 := slot_norm q9
                                        clear ha hd hst
                                        exact StepI.pure (v := .slice (some ⟨blk, o2, none⟩) N2 c2) rfl rfl (by go_simp) ⟨rfl, hI⟩
                                      · intro us au w1 k5 hlo hhi ha hd hst hI
                                        obtain rfl : k5 = 0 := by omega
                                        have q16 := slot_far (t := 16) (v := .int .i64 (i : Int)) ha (by kernel_rfl) (by kernel_rfl)
                                        have p16 := slot_norm q16
                                        clear ha hd hst
                                        exact StepI.pure (v := .int .i64 (i : Int)) rfl rfl (by go_simp) ⟨rfl, hI⟩
                                      · intro us au w1 k6 hlo hhi ha hd hst hI
                                        obtain rfl : k6 = 0 := by omega
                                        have e5 := hd 5 _ (by kernel_rfl) rfl
                                        have q196 := slot_at (t := 196) 5 ha (by kernel_rfl) (by kernel_rfl) (by kernel_rfl) e5
                                        have p196 := slot_norm q196
                                        clear ha hd hst
                                        exact StepI.pure (v := .int .i64 (r4 : Int)) rfl rfl (by go_simp) ⟨rfl, hI⟩
                                      · intro us au w1 k7 hlo hhi ha hd hst hI
                                        obtain rfl : k7 = 0 := by omega
                                        have q16 := slot_far (t := 16) (v := .int .i64 (i : Int)) ha (by kernel_rfl) (by kernel_rfl)
                                        have p16 := slot_norm q16
                                        clear ha hd hst
                                        exact StepI.pure (v := .int .i64 (i : Int)) rfl rfl (by go_simp) ⟨rfl, hI⟩
                                      · intro us au w1 k8 hlo hhi ha hd hst hI
                                        obtain rfl : k8 = 0 := by omega
                                        have e7 := hd 7 _ (by kernel_rfl) rfl
                                        have q198 := slot_at (t := 198) 7 ha (by kernel_rfl) (by kernel_rfl) (by kernel_rfl) e7
                                        have p198 := slot_norm q198
                                        clear ha hd hst
                                        exact StepI.pure (v := .int .i64 (r4 : Int)) rfl rfl (by go_simp) ⟨rfl, hI⟩
                                      · intro us au w1 k9 hlo hhi ha hd hst hI
                                        obtain rfl : k9 = 0 := by omega
                                        have e8 := hd 8 _ (by kernel_rfl) rfl
                                        have q199 := slot_at (t := 199) 8 ha (by kernel_rfl) (by kernel_rfl) (by kernel_rfl) e8
                                        have p199 := slot_norm q199
                                        clear ha hd hst
                                        exact StepI.pure (v := .int .i64 (r44 : Int)) rfl rfl (by go_simp) ⟨rfl, hI⟩
                                      · intro us au w1 k10 hlo hhi ha hd hst hI
                                        obtain rfl : k10 = 0 := by omega
                                        have e4 := hd 4 _ (by kernel_rfl) rfl
                                        have e6 := hd 6 _ (by kernel_rfl) rfl
                                        have e9 := hd 9 _ (by kernel_rfl) rfl
                                        have q195 := slot_at (t := 195) 4 ha (by kernel_rfl) (by kernel_rfl) (by kernel_rfl) e4
                                        have p195 := slot_norm q195
                                        have q197 := slot_at (t := 197) 6 ha (by kernel_rfl) (by kernel_rfl) (by kernel_rfl) e6
                                        have p197 := slot_norm q197
                                        have q200 := slot_at (t := 200) 9 ha (by kernel_rfl) (by kernel_rfl) (by kernel_rfl) e9
                                        have p200 := slot_norm q200
                                        clear ha hd hst
                                        exact StepI.pure (v := .slice (some ⟨blk, o2 + r4, none⟩) 4 (c2 - r4)) rfl rfl (by go_simp) ⟨rfl, hI⟩
                                      · intro us au w1 k11 hlo hhi ha hd hst hI
                                        obtain rfl : k11 = 0 := by omega
                                        have e10 := hd 10 _ (by kernel_rfl) rfl
                                        have q201 := slot_at (t := 201) 10 ha (by kernel_rfl) (by kernel_rfl) (by kernel_rfl) e10
                                        have p201 := slot_norm q201
                                        clear ha hd hst
                                        refine StepI.call (f := 40) (args := #[.slice (some ⟨blk, o2 + r4, none⟩) 4 (c2 - r4)]) rfl rfl (by go_simp) ?_
                                        refine (HX2.out w1 hI).mono ?_
                                        rintro e w5 ⟨rfl, rfl⟩
                                        exact ⟨_, rfl, rfl, hI⟩
                                      · intro us au w1 k12 hlo hhi ha hd hst hI
                                        obtain rfl : k12 = 0 := by omega
                                        have e11 := hd 11 _ (by kernel_rfl) rfl
                                        have q202 := slot_at (t := 202) 11 ha (by kernel_rfl) (by kernel_rfl) (by kernel_rfl) e11
                                        have p202 := slot_norm q202
                                        clear ha hd hst
                                        exact StepI.pure (v := .int .u32 (crcA b n i)) rfl rfl (by go_simp) ⟨rfl, hI⟩
                                      · intro us au w1 k13 hlo hhi ha hd hst hI
                                        obtain rfl : k13 = 0 := by omega
                                        have q19 := slot_far (t := 19) (v := .int .u64 BIG) ha (by kernel_rfl) (by kernel_rfl)
                                        have p19 := slot_norm q19
                                        clear ha hd hst
                                        exact StepI.pure (v := .int .u64 BIG) rfl rfl (by go_simp) ⟨rfl, hI⟩
                                      · intro us au w1 k14 hlo hhi ha hd hst hI
                                        obtain rfl : k14 = 0 := by omega
                                        have e13 := hd 13 _ (by kernel_rfl) rfl
                                        have q204 := slot_at (t := 204) 13 ha (by kernel_rfl) (by kernel_rfl) (by kernel_rfl) e13
                                        have p204 := slot_norm q204
                                        clear ha hd hst
                                        exact StepI.pure (v := .int .i64 BIG) rfl rfl (by go_simp) ⟨rfl, hI⟩
                                      · intro us au w1 k15 hlo hhi ha hd hst hI
                                        obtain rfl : k15 = 0 := by omega
                                        have e3 := hd 3 _ (by kernel_rfl) rfl
                                        have e12 := hd 12 _ (by kernel_rfl) rfl
                                        have e14 := hd 14 _ (by kernel_rfl) rfl
                                        have q194 := slot_at (t := 194) 3 ha (by kernel_rfl) (by kernel_rfl) (by kernel_rfl) e3
                                        have p194 := slot_norm q194
                                        have q203 := slot_at (t := 203) 12 ha (by kernel_rfl) (by kernel_rfl) (by kernel_rfl) e12
                                        have p203 := slot_norm q203
                                        have q205 := slot_at (t := 205) 14 ha (by kernel_rfl) (by kernel_rfl) (by kernel_rfl) e14
                                        have p205 := slot_norm q205
                                        clear ha hd hst
                                        exact StepI.pure (v := .agg #[.int .i64 0, .slice none 0 0, .string (strOfNums (hexL (idL b i))), .int .i64 BIG, .int .u32 (crcA b n i)]) rfl rfl (by go_simp) ⟨rfl, hI⟩
                                      · intro us au w1 ha hd hst hI
                                        have e15 := hd 15 _ (by kernel_rfl) rfl
                                        have q206 := slot_at (t := 206) 15 ha (by kernel_rfl) (by kernel_rfl) (by kernel_rfl) e15
                                        have p206 := slot_norm q206
                                        clear ha hd hst
                                        refine StepI.runs (v := .slice (some ⟨w1.heap.size, 0, none⟩) 1 1) (w' := w1.alloc (.cells #[.int .i64 0, .slice none 0 0, .string (strOfNums (hexL (idL b i))), .int .i64 BIG, .int .u32 (crcA b n i)] 30)) rfl rfl (by go_simp) ⟨trivial, w1, hI, ?_, rfl⟩
                                        rw [HENT.out]
                                      · intro us au w1 ha hd hst hI
                                        have e1 := hd 1 _ (by kernel_rfl) rfl
                                        obtain ⟨_⟩ := hd 16 _ (by kernel_rfl) rfl
                                        have q192 := slot_at (t := 192) 1 ha (by kernel_rfl) (by kernel_rfl) (by kernel_rfl) e1
                                        have p192 := slot_norm q192
                                        have q207 := slot_at (t := 207) 16 ha (by kernel_rfl) (by kernel_rfl) (by kernel_rfl) (Eq.refl (us 16))
                                        have p207 := slot_norm q207
                                        clear ha hd hst
                                        obtain ⟨w9, h9, hw9, hs9⟩ := hI
                                        have hro := (HR6.out.chg (S := fun _ => False) (Chg.of_below h9) (fun _ _ h => h)).alloc (.cells (entA (entV b n i)) 30)
                                        rw [hs9] at q207
                                        subst hw9
                                        refine StepI.wp rfl rfl (fun K hK => ?_)
                                        refine wp_append_S (.tmp 192) (.tmp 207) 23 23 rfl i0 _ 64 (.slice 30) Try.underlying23 Try.underlying23 (fun _ h => by cases h) hi hz0 hz1 hz2 rfl (v := .slice A5 i cc5) (x := .slice (some ⟨w9.heap.size, 0, none⟩) 1 1) q192 q207 hro (src_obj w9 (entV b n i)) (by have := HN4.out; unfold maxLen; omega) (by have := HN4.out; omega) (by have h1 := h9.size; have h2 := HB6.out.size; simp; omega) (fun A9 c9 w8 ho9 hg9 hw8 => hK _ _ ⟨trivial, ⟨w9, A9, c9, h9, rfl, ho9, hg9⟩⟩)
                                      · intro us au w1 k18 hlo hhi ha hd hst hI
                                        obtain rfl : k18 = 2 := by omega
                                        have q14 := slot_far (t := 14) (v := .pointer (some ⟨g2, 0, none⟩)) ha (by kernel_rfl) (by kernel_rfl)
                                        have p14 := slot_norm q14
                                        clear ha hd hst
                                        exact StepI.pure (v := .pointer (some ⟨g2, 0, none⟩)) rfl rfl (by go_simp) ⟨rfl, hI⟩
                                      · intro us au w1 ha hd hst hI
                                        have e18 := hd 18 _ (by kernel_rfl) rfl
                                        obtain ⟨_⟩ := hd 17 _ (by kernel_rfl) rfl
                                        have q209 := slot_at (t := 209) 18 ha (by kernel_rfl) (by kernel_rfl) (by kernel_rfl) e18
                                        have p209 := slot_norm q209
                                        have q208 := slot_at (t := 208) 17 ha (by kernel_rfl) (by kernel_rfl) (by kernel_rfl) (Eq.refl (us 17))
                                        have p208 := slot_norm q208
                                        clear ha hd hst
                                        have hG9 := hI
                                        obtain ⟨w9, A9, c9, h9, hv9, ho9, hg9⟩ := hI.ex
                                        have hcc := ((HC26.out.below h9 HC26.out.blk).alloc (.cells (entA (entV b n i)) 30)).same (hg9.block g2 (by have h1 := h9.size; have h2 := HC26.out.blk; simp; omega) (fun e => HR6.out.ne_cel HC26.out (by decide) e.symm))
                                        have t0 := hcc.cell 0 (by decide)
                                        have f0 := hcc.frozen 0
                                        rw [hv9] at p208
                                        refine StepI.stored (w' := w1.setCell ⟨g2, 0, none⟩ (.slice A9 (i + 1) c9)) rfl rfl (by go_simp) ⟨trivial, w1, hG9, by rw [hv9]⟩
                                    case done =>
                                      intro us w1 hI hd
                                      obtain ⟨w8, hG8, hw8⟩ := hI
                                      obtain ⟨w9, A9, c9, h9, hv9, ho9, hg9⟩ := hG8.ex
                                      rw [hv9] at hw8
                                      have hb8 : Below w.heap.size w w8 := (((HB6.out.trans (h9.mono HB6.out.size)).alloc (by have h1 := h9.size; have h2 := HB6.out.size; omega) _).grown hg9 (by have h1 := h9.size; have h2 := HB6.out.size; simp; omega) (fun j hj => (HR6.out.lt j hj).1))
                                      have hz9 : w6.heap.size < (w9.alloc (.cells (entA (entV b n i)) 30)).heap.size := by have h1 := h9.size; simp; omega
                                      have hk1 : Cel w8 g1 45 3 (gotF (.slice none 0 0) ⟨#[]⟩ 0) := ((HC16.out.below h9 HC16.out.blk).alloc _).same (hg9.block g1 (by have := HC16.out.blk; omega) (fun e => HR6.out.ne_cel HC16.out (by decide) e.symm))
                                      have hk2 : Cel w8 g2 45 3 (gotF (.slice A5 i cc5) ⟨#[]⟩ 0) := ((HC26.out.below h9 HC26.out.blk).alloc _).same (hg9.block g2 (by have := HC26.out.blk; omega) (fun e => HR6.out.ne_cel HC26.out (by decide) e.symm))
                                      have hkf : OwnS w8 w.heap.size 71 1 (.slice (some ⟨bf, of, none⟩) 256 cc) 256 (fansV b 256) := ((HO6.out.chg (S := fun _ => False) (Chg.of_below h9) (fun _ _ h => h)).alloc _).kept hg9 (.inr fun e => by
                                        rcases HR6.out.2 with ⟨hv, _⟩ | ⟨g', off', cap', cur', hv, _, ⟨fr', hh', _⟩, _⟩
                                        · rw [hv] at e; cases e
                                        · rw [hv] at e
                                          rcases HO6.out.2 with ⟨hv2, _⟩ | ⟨g3', off3, cap3, cur3, hv2, _, ⟨fr3, hh3, _⟩, _⟩
                                          · cases hv2
                                          · rw [hv2] at e
                                            injection e with e
                                            subst e
                                            rw [hh'] at hh3
                                            injection hh3 with hh3
                                            injection hh3 with _ h4 _
                                            exact absurd h4 (by decide))
                                      have HB9 : Hid (Below w.heap.size w w1) := by show Below _ _ _; rw [hw8]; exact hb8.setCell HWG.out _
                                      have HK1 : Hid (Cel w1 g1 45 3 (gotF (.slice none 0 0) ⟨#[]⟩ 0)) := by show Cel _ _ _ _ _; rw [hw8]; exact hk1.setFar (a := ⟨g2, 0, none⟩) hg12 _
                                      have HK2' : Hid (Cel w1 g2 45 3 (gotF (.slice A9 (i + 1) c9) ⟨#[]⟩ 0)) := by
                                        show Cel _ _ _ _ _
                                        rw [hw8]
                                        exact (hk2.set 0 (.slice A9 (i + 1) c9)).congr fun j hj => by rcases j with _ | _ | _ | j <;> first | rfl | omega
                                      have HKF : Hid (OwnS w1 w.heap.size 71 1 (.slice (some ⟨bf, of, none⟩) 256 cc) 256 (fansV b 256)) := by show OwnS _ _ _ _ _ _ _; rw [hw8]; exact hkf.setFar (a := ⟨g2, 0, none⟩) (fun e => hkf.ne_cel hk2 (by decide) e) _
                                      have HKR : Hid (OwnS w1 w.heap.size 30 5 (.slice A9 (i + 1) c9) (i + 1) (entsV b n (i + 1))) := by show OwnS _ _ _ _ _ _ _; rw [hw8, entsV_succ]; exact ho9.setFar (a := ⟨g2, 0, none⟩) (fun e => ho9.ne_cel hk2 (by decide) e) _
                                      clear hd hG8 hw8 h9 hv9 ho9 hg9 hb8 hz9 hk1 hk2 hkf HX1 HX2 HO6 HC16 HC26 HR6 HB6
                                      simp only [putAll]
                                      go_simp
                                      go_wp2
                                      go_roundw
                                      case rel => exact ⟨i + 1, A9, c9, rfl, by rw [← HK2.out]; first | done | rfl | simp, by omega, HNX.out, HKF.out, HK1.out, HK2'.out, HKR.out, HB9.out⟩
                                      case measure => simp [intOf]; omega
                              · have hneq : decide (atV b n i ≠ 2147483648 + (k : Int)) = true := decide_eq_true (by omega)
                                have HE := Lib.hid (HEF.out (by rw [hfb, hneq]; rfl))
                                clear hfb g2_ g3 hA
                                have hC := HC16.out
                                go_wp2_with (refine wpList_store_part (vs := gotA (.slice none 0 0) ⟨#[]⟩ 3) (off := 0) rfl (.tmp 2) (.tmp 173) rfl rfl rfl hC (info_got _ _ _) (Nat.le_refl 3) (gotA_one _ _ _ _ _) ?_; intro w9 hC9 hg9 hs9; have hC7 := got_stored hC9)
                                exact bodyPost_ret (v := .agg (gotA (.slice none 0 0) ⟨#[]⟩ 3)) (results_cel rfl _ rfl hC7 Try.underlying45 rfl (info_got _ _ _) (Nat.le_refl 3) (fun j hj => gotA_at _ _ _ j hj)) rfl (GotPost.no HE.out (by decide) (HB6.out.grown hg9 HB6.out.size (fun k h => by injection h with h; rw [← h, HG1.out]; exact Nat.le_refl _)))
                            · skip
                              obtain ⟨g1, g2_, g3⟩ := near_ hA
                              have d6 : decide (2147483648 ≤ atV b n i) = false := decide_eq_false hA
                              have d6p : ¬ 2147483648 ≤ atV b n i := hA
                              clear hA
                              have g3' := g3
                              have HX1 := Lib.hid (fun W (hW : Below w6.heap.size w6 W) => hexR_any (some ⟨blk, o1 + r1, none⟩) 20 (c1 - r1) (idL b i) W (by rw [show o1 + r1 = off + (1032 + 20 * i) by have h1 := HPL.out; have h2 := HR1.out; omega]; exact ((HI.out.below (HB6.out.trans (hW.mono HB6.out.size))).drop (1032 + 20 * i)).take 20) (idL_len (n := n) (by rw [HN.out, HW.out]; omega) hlt) (idL_ok HB.out i) (by decide))
                              have hgc := getL_four b (1032 + 20 * n + 4 * i) (by rw [HN.out]; have h2 := HW.out; omega)
                              have HX2 := Lib.hid (fun W (hW : Below w6.heap.size w6 W) => get_any (some ⟨blk, o2 + r4, none⟩) 4 (c2 - r4) ((b.drop (1032 + 20 * n + 4 * i)).take 4) W (by rw [show o2 + r4 = off + (1032 + 20 * n + 4 * i) by have h1 := HPL.out; have h2 := HR4.out; omega]; exact ((HI.out.below (HB6.out.trans (hW.mono HB6.out.size))).drop (1032 + 20 * n + 4 * i)).take 4) (by rw [List.length_take, List.length_drop, HN.out]; have h2 := HW.out; omega) (by decide) ((HB.out.drop _).take 4))
                              rw [hgc] at HX2
                              have hcr : n4 b (1032 + 20 * n + 4 * i) = crcA b n i := rfl
                              rw [hcr] at HX2
                              have hcb := n4_bd HB.out (1032 + 20 * n + 4 * i)
                              rw [hcr] at hcb
                              obtain ⟨r44, hr44⟩ : ∃ r, r4 + 4 = r := ⟨_, rfl⟩
                              have s16 : IntKind.i64.wrap ((r4 : Int) + 4) = (r44 : Int) := by rw [s15]; omega
                              have s17 : IntKind.u32.wrap (crcA b n i) = crcA b n i := by rw [IntKind.wrap_u32']; omega
                              have s18 : IntKind.i64.wrap (atV b n i) = (atV b n i) := IntWalk.i64_in _ (by omega)
                              have l5 : r4 ≤ r44 := by omega
                              have l6 : r44 ≤ c2 := by have h1 := HPL.out; have h2 := HW.out; have h3 := HLC.out; have h4 := HR4.out; omega
                              have l7 : ¬ c2 = r4 := by omega
                              have t5 : r44 - r4 = 4 := by omega
                              have HENT : Hid (entA (entV b n i) = #[.int .i64 0, .slice none 0 0, .string (strOfNums (hexL (idL b i))), .int .i64 (atV b n i), .int .u32 (crcA b n i)]) := by show _ = _; rw [g3]; rfl
                              obtain ⟨i0, hi, hz0, hz1, hz2⟩ := info_parts info_obj
                              have HNX := Lib.hid (ok_next HOK.out HBO.out g1)
                              have HK2 : Hid ((k : Nat) = farN b n (i + 1)) := by show _ = _; rw [g2_]; first | done | exact HKN.out.symm
                              have s19 : IntKind.i64.wrap ((i : Int) + 1) = ((i + 1 : Nat) : Int) := by rw [IntWalk.i64_in _ (by have := HN4.out; omega)]; omega
                              clear hgc hcr hr44 s15 g1 g2_ g3 g3'
                              go_wp2
                              refine wp_region_ph (by kernel_rfl) [16, 17, 19] [.span 0 1, .span 0 1, .span 0 0, .span 0 0, .span 0 0, .span 0 0, .span 0 0, .span 0 0, .span 0 0, .span 0 0, .span 0 0, .span 0 0, .span 0 0, .span 0 0, .span 0 0, .span 0 0, .phase 0, .phase 1, .span 2 2, .phase 2] [fun z9 => z9 = .pointer (some ⟨g2, 0, none⟩), fun z9 => z9 = .slice A5 i cc5, fun z9 => z9 = .slice (some ⟨blk, o1 + r1, none⟩) 20 (c1 - r1), fun z9 => z9 = .string (strOfNums (hexL (idL b i))), fun z9 => z9 = .slice (some ⟨blk, o2, none⟩) N2 c2, fun z9 => z9 = .int .i64 (i : Int), fun z9 => z9 = .int .i64 (r4 : Int), fun z9 => z9 = .int .i64 (i : Int), fun z9 => z9 = .int .i64 (r4 : Int), fun z9 => z9 = .int .i64 (r44 : Int), fun z9 => z9 = .slice (some ⟨blk, o2 + r4, none⟩) 4 (c2 - r4), fun z9 => z9 = .int .u64 (crcA b n i), fun z9 => z9 = .int .u32 (crcA b n i), fun z9 => z9 = .int .u64 (atV b n i), fun z9 => z9 = .int .i64 (atV b n i), fun z9 => z9 = .agg #[.int .i64 0, .slice none 0 0, .string (strOfNums (hexL (idL b i))), .int .i64 (atV b n i), .int .u32 (crcA b n i)], fun _ => True, fun _ => True, fun z9 => z9 = .pointer (some ⟨g2, 0, none⟩), fun _ => True] (IApp w.heap.size w6 g2 (.slice A5 i cc5) (i + 1) (entsV b n i) (entV b n i)) (by kernel_rfl) (by kernel_rfl) (by kernel_rfl) (by kernel_rfl) (by kernel_rfl) (by kernel_rfl) rfl rfl ((Below.refl _ _).drew) ?steps ?done
                              case steps =>
                                refine ⟨?_, ?_, ?_, ?_, ?_, ?_, ?_, ?_, ?_, ?_, ?_, ?_, ?_, ?_, ?_, ?_, ?_, ?_, ?_, ?_, trivial⟩
                                · intro us au w1 k0 hlo hhi ha hd hst hI
                                  have q14 := slot_far (t := 14) (v := .pointer (some ⟨g2, 0, none⟩)) ha (by kernel_rfl) (by kernel_rfl)
                                  have p14 := slot_norm q14
                                  clear ha hd hst
                                  exact StepI.pure (v := .pointer (some ⟨g2, 0, none⟩)) rfl rfl (by go_simp) ⟨rfl, hI⟩
                                · intro us au w1 k1 hlo hhi ha hd hst hI
                                  have e0 := hd 0 _ (by kernel_rfl) rfl
                                  have q191 := slot_at (t := 191) 0 ha (by kernel_rfl) (by kernel_rfl) (by kernel_rfl) e0
                                  have p191 := slot_norm q191
                                  clear ha hd hst
                                  have kc : w1.cell? ⟨g2, 0, none⟩ = some (.slice A5 i cc5) := by
                                    rcases (show k1 = 0 ∨ k1 = 1 by omega) with rfl | rfl
                                    · exact (HC26.out.below hI HC26.out.blk).cell 0 (by decide)
                                    · obtain ⟨w9, h9, hw9, _⟩ := hI
                                      rw [hw9]
                                      exact ((HC26.out.below h9 HC26.out.blk).alloc _).cell 0 (by decide)
                                  exact StepI.pure (v := .slice A5 i cc5) rfl rfl (by go_simp) ⟨rfl, hI⟩
                                · intro us au w1 k2 hlo hhi ha hd hst hI
                                  obtain rfl : k2 = 0 := by omega
                                  have q17 := slot_far (t := 17) (v := .slice (some ⟨blk, o1 + r1, none⟩) 20 (c1 - r1)) ha (by kernel_rfl) (by kernel_rfl)
                                  have p17 := slot_norm q17
                                  clear ha hd hst
                                  exact StepI.pure (v := .slice (some ⟨blk, o1 + r1, none⟩) 20 (c1 - r1)) rfl rfl (by go_simp) ⟨rfl, hI⟩
                                · intro us au w1 k3 hlo hhi ha hd hst hI
                                  obtain rfl : k3 = 0 := by omega
                                  have e2 := hd 2 _ (by kernel_rfl) rfl
                                  have q193 := slot_at (t := 193) 2 ha (by kernel_rfl) (by kernel_rfl) (by kernel_rfl) e2
                                  have p193 := slot_norm q193
                                  clear ha hd hst
                                  refine StepI.call (f := 17) (args := #[.slice (some ⟨blk, o1 + r1, none⟩) 20 (c1 - r1)]) rfl rfl (by go_simp) ?_
                                  refine (HX1.out w1 hI).mono ?_
                                  rintro e w5 ⟨rfl, hb5⟩
                                  exact ⟨_, rfl, rfl, Below.trans hI (hb5.mono (Below.size hI))⟩
                                · intro us au w1 k4 hlo hhi ha hd hst hI
                                  obtain rfl : k4 = 0 := by omega
                                  have q9 := slot_far (t := 9) (v := .slice (some ⟨blk, o2, none⟩) N2 c2) ha (by kernel_rfl) (by kernel_rfl)
                                  have p9 := slot_norm q9
                                  clear ha hd hst
                                  exact StepI.pure (v := .slice (some ⟨blk, o2, none⟩) N2 c2) rfl rfl (by go_simp) ⟨rfl, hI⟩
                                · intro us au w1 k5 hlo hhi ha hd hst hI
                                  obtain rfl : k5 = 0 := by omega
                                  have q16 := slot_far (t := 16) (v := .int .i64 (i : Int)) ha (by kernel_rfl) (by kernel_rfl)
                                  have p16 := slot_norm q16
                                  clear ha hd hst
                                  exact StepI.pure (v := .int .i64 (i : Int)) rfl rfl (by go_simp) ⟨rfl, hI⟩
                                · intro us au w1 k6 hlo hhi ha hd hst hI
                                  obtain rfl : k6 = 0 := by omega
                                  have e5 := hd 5 _ (by kernel_rfl) rfl
                                  have q196 := slot_at (t := 196) 5 ha (by kernel_rfl) (by kernel_rfl) (by kernel_rfl) e5
                                  have p196 := slot_norm q196
                                  clear ha hd hst
                                  exact StepI.pure (v := .int .i64 (r4 : Int)) rfl rfl (by go_simp) ⟨rfl, hI⟩
                                · intro us au w1 k7 hlo hhi ha hd hst hI
                                  obtain rfl : k7 = 0 := by omega
                                  have q16 := slot_far (t := 16) (v := .int .i64 (i : Int)) ha (by kernel_rfl) (by kernel_rfl)
                                  have p16 := slot_norm q16
                                  clear ha hd hst
                                  exact StepI.pure (v := .int .i64 (i : Int)) rfl rfl (by go_simp) ⟨rfl, hI⟩
                                · intro us au w1 k8 hlo hhi ha hd hst hI
                                  obtain rfl : k8 = 0 := by omega
                                  have e7 := hd 7 _ (by kernel_rfl) rfl
                                  have q198 := slot_at (t := 198) 7 ha (by kernel_rfl) (by kernel_rfl) (by kernel_rfl) e7
                                  have p198 := slot_norm q198
                                  clear ha hd hst
                                  exact StepI.pure (v := .int .i64 (r4 : Int)) rfl rfl (by go_simp) ⟨rfl, hI⟩
                                · intro us au w1 k9 hlo hhi ha hd hst hI
                                  obtain rfl : k9 = 0 := by omega
                                  have e8 := hd 8 _ (by kernel_rfl) rfl
                                  have q199 := slot_at (t := 199) 8 ha (by kernel_rfl) (by kernel_rfl) (by kernel_rfl) e8
                                  have p199 := slot_norm q199
                                  clear ha hd hst
                                  exact StepI.pure (v := .int .i64 (r44 : Int)) rfl rfl (by go_simp) ⟨rfl, hI⟩
                                · intro us au w1 k10 hlo hhi ha hd hst hI
                                  obtain rfl : k10 = 0 := by omega
                                  have e4 := hd 4 _ (by kernel_rfl) rfl
                                  have e6 := hd 6 _ (by kernel_rfl) rfl
                                  have e9 := hd 9 _ (by kernel_rfl) rfl
                                  have q195 := slot_at (t := 195) 4 ha (by kernel_rfl) (by kernel_rfl) (by kernel_rfl) e4
                                  have p195 := slot_norm q195
                                  have q197 := slot_at (t := 197) 6 ha (by kernel_rfl) (by kernel_rfl) (by kernel_rfl) e6
                                  have p197 := slot_norm q197
                                  have q200 := slot_at (t := 200) 9 ha (by kernel_rfl) (by kernel_rfl) (by kernel_rfl) e9
                                  have p200 := slot_norm q200
                                  clear ha hd hst
                                  exact StepI.pure (v := .slice (some ⟨blk, o2 + r4, none⟩) 4 (c2 - r4)) rfl rfl (by go_simp) ⟨rfl, hI⟩
                                · intro us au w1 k11 hlo hhi ha hd hst hI
                                  obtain rfl : k11 = 0 := by omega
                                  have e10 := hd 10 _ (by kernel_rfl) rfl
                                  have q201 := slot_at (t := 201) 10 ha (by kernel_rfl) (by kernel_rfl) (by kernel_rfl) e10
                                  have p201 := slot_norm q201
                                  clear ha hd hst
                                  refine StepI.call (f := 40) (args := #[.slice (some ⟨blk, o2 + r4, none⟩) 4 (c2 - r4)]) rfl rfl (by go_simp) ?_
                                  refine (HX2.out w1 hI).mono ?_
                                  rintro e w5 ⟨rfl, rfl⟩
                                  exact ⟨_, rfl, rfl, hI⟩
                                · intro us au w1 k12 hlo hhi ha hd hst hI
                                  obtain rfl : k12 = 0 := by omega
                                  have e11 := hd 11 _ (by kernel_rfl) rfl
                                  have q202 := slot_at (t := 202) 11 ha (by kernel_rfl) (by kernel_rfl) (by kernel_rfl) e11
                                  have p202 := slot_norm q202
                                  clear ha hd hst
                                  exact StepI.pure (v := .int .u32 (crcA b n i)) rfl rfl (by go_simp) ⟨rfl, hI⟩
                                · intro us au w1 k13 hlo hhi ha hd hst hI
                                  obtain rfl : k13 = 0 := by omega
                                  have q19 := slot_far (t := 19) (v := .int .u64 (atV b n i)) ha (by kernel_rfl) (by kernel_rfl)
                                  have p19 := slot_norm q19
                                  clear ha hd hst
                                  exact StepI.pure (v := .int .u64 (atV b n i)) rfl rfl (by go_simp) ⟨rfl, hI⟩
                                · intro us au w1 k14 hlo hhi ha hd hst hI
                                  obtain rfl : k14 = 0 := by omega
                                  have e13 := hd 13 _ (by kernel_rfl) rfl
                                  have q204 := slot_at (t := 204) 13 ha (by kernel_rfl) (by kernel_rfl) (by kernel_rfl) e13
                                  have p204 := slot_norm q204
                                  clear ha hd hst
                                  exact StepI.pure (v := .int .i64 (atV b n i)) rfl rfl (by go_simp) ⟨rfl, hI⟩
                                · intro us au w1 k15 hlo hhi ha hd hst hI
                                  obtain rfl : k15 = 0 := by omega
                                  have e3 := hd 3 _ (by kernel_rfl) rfl
                                  have e12 := hd 12 _ (by kernel_rfl) rfl
                                  have e14 := hd 14 _ (by kernel_rfl) rfl
                                  have q194 := slot_at (t := 194) 3 ha (by kernel_rfl) (by kernel_rfl) (by kernel_rfl) e3
                                  have p194 := slot_norm q194
                                  have q203 := slot_at (t := 203) 12 ha (by kernel_rfl) (by kernel_rfl) (by kernel_rfl) e12
                                  have p203 := slot_norm q203
                                  have q205 := slot_at (t := 205) 14 ha (by kernel_rfl) (by kernel_rfl) (by kernel_rfl) e14
                                  have p205 := slot_norm q205
                                  clear ha hd hst
                                  exact StepI.pure (v := .agg #[.int .i64 0, .slice none 0 0, .string (strOfNums (hexL (idL b i))), .int .i64 (atV b n i), .int .u32 (crcA b n i)]) rfl rfl (by go_simp) ⟨rfl, hI⟩
                                · intro us au w1 ha hd hst hI
                                  have e15 := hd 15 _ (by kernel_rfl) rfl
                                  have q206 := slot_at (t := 206) 15 ha (by kernel_rfl) (by kernel_rfl) (by kernel_rfl) e15
                                  have p206 := slot_norm q206
                                  clear ha hd hst
                                  refine StepI.runs (v := .slice (some ⟨w1.heap.size, 0, none⟩) 1 1) (w' := w1.alloc (.cells #[.int .i64 0, .slice none 0 0, .string (strOfNums (hexL (idL b i))), .int .i64 (atV b n i), .int .u32 (crcA b n i)] 30)) rfl rfl (by go_simp) ⟨trivial, w1, hI, ?_, rfl⟩
                                  rw [HENT.out]
                                · intro us au w1 ha hd hst hI
                                  have e1 := hd 1 _ (by kernel_rfl) rfl
                                  obtain ⟨_⟩ := hd 16 _ (by kernel_rfl) rfl
                                  have q192 := slot_at (t := 192) 1 ha (by kernel_rfl) (by kernel_rfl) (by kernel_rfl) e1
                                  have p192 := slot_norm q192
                                  have q207 := slot_at (t := 207) 16 ha (by kernel_rfl) (by kernel_rfl) (by kernel_rfl) (Eq.refl (us 16))
                                  have p207 := slot_norm q207
                                  clear ha hd hst
                                  obtain ⟨w9, h9, hw9, hs9⟩ := hI
                                  have hro := (HR6.out.chg (S := fun _ => False) (Chg.of_below h9) (fun _ _ h => h)).alloc (.cells (entA (entV b n i)) 30)
                                  rw [hs9] at q207
                                  subst hw9
                                  refine StepI.wp rfl rfl (fun K hK => ?_)
                                  refine wp_append_S (.tmp 192) (.tmp 207) 23 23 rfl i0 _ 64 (.slice 30) Try.underlying23 Try.underlying23 (fun _ h => by cases h) hi hz0 hz1 hz2 rfl (v := .slice A5 i cc5) (x := .slice (some ⟨w9.heap.size, 0, none⟩) 1 1) q192 q207 hro (src_obj w9 (entV b n i)) (by have := HN4.out; unfold maxLen; omega) (by have := HN4.out; omega) (by have h1 := h9.size; have h2 := HB6.out.size; simp; omega) (fun A9 c9 w8 ho9 hg9 hw8 => hK _ _ ⟨trivial, ⟨w9, A9, c9, h9, rfl, ho9, hg9⟩⟩)
                                · intro us au w1 k18 hlo hhi ha hd hst hI
                                  obtain rfl : k18 = 2 := by omega
                                  have q14 := slot_far (t := 14) (v := .pointer (some ⟨g2, 0, none⟩)) ha (by kernel_rfl) (by kernel_rfl)
                                  have p14 := slot_norm q14
                                  clear ha hd hst
                                  exact StepI.pure (v := .pointer (some ⟨g2, 0, none⟩)) rfl rfl (by go_simp) ⟨rfl, hI⟩
                                · intro us au w1 ha hd hst hI
                                  have e18 := hd 18 _ (by kernel_rfl) rfl
                                  obtain ⟨_⟩ := hd 17 _ (by kernel_rfl) rfl
                                  have q209 := slot_at (t := 209) 18 ha (by kernel_rfl) (by kernel_rfl) (by kernel_rfl) e18
                                  have p209 := slot_norm q209
                                  have q208 := slot_at (t := 208) 17 ha (by kernel_rfl) (by kernel_rfl) (by kernel_rfl) (Eq.refl (us 17))
                                  have p208 := slot_norm q208
                                  clear ha hd hst
                                  have hG9 := hI
                                  obtain ⟨w9, A9, c9, h9, hv9, ho9, hg9⟩ := hI.ex
                                  have hcc := ((HC26.out.below h9 HC26.out.blk).alloc (.cells (entA (entV b n i)) 30)).same (hg9.block g2 (by have h1 := h9.size; have h2 := HC26.out.blk; simp; omega) (fun e => HR6.out.ne_cel HC26.out (by decide) e.symm))
                                  have t0 := hcc.cell 0 (by decide)
                                  have f0 := hcc.frozen 0
                                  rw [hv9] at p208
                                  refine StepI.stored (w' := w1.setCell ⟨g2, 0, none⟩ (.slice A9 (i + 1) c9)) rfl rfl (by go_simp) ⟨trivial, w1, hG9, by rw [hv9]⟩
                              case done =>
                                intro us w1 hI hd
                                obtain ⟨w8, hG8, hw8⟩ := hI
                                obtain ⟨w9, A9, c9, h9, hv9, ho9, hg9⟩ := hG8.ex
                                rw [hv9] at hw8
                                have hb8 : Below w.heap.size w w8 := (((HB6.out.trans (h9.mono HB6.out.size)).alloc (by have h1 := h9.size; have h2 := HB6.out.size; omega) _).grown hg9 (by have h1 := h9.size; have h2 := HB6.out.size; simp; omega) (fun j hj => (HR6.out.lt j hj).1))
                                have hz9 : w6.heap.size < (w9.alloc (.cells (entA (entV b n i)) 30)).heap.size := by have h1 := h9.size; simp; omega
                                have hk1 : Cel w8 g1 45 3 (gotF (.slice none 0 0) ⟨#[]⟩ 0) := ((HC16.out.below h9 HC16.out.blk).alloc _).same (hg9.block g1 (by have := HC16.out.blk; omega) (fun e => HR6.out.ne_cel HC16.out (by decide) e.symm))
                                have hk2 : Cel w8 g2 45 3 (gotF (.slice A5 i cc5) ⟨#[]⟩ 0) := ((HC26.out.below h9 HC26.out.blk).alloc _).same (hg9.block g2 (by have := HC26.out.blk; omega) (fun e => HR6.out.ne_cel HC26.out (by decide) e.symm))
                                have hkf : OwnS w8 w.heap.size 71 1 (.slice (some ⟨bf, of, none⟩) 256 cc) 256 (fansV b 256) := ((HO6.out.chg (S := fun _ => False) (Chg.of_below h9) (fun _ _ h => h)).alloc _).kept hg9 (.inr fun e => by
                                  rcases HR6.out.2 with ⟨hv, _⟩ | ⟨g', off', cap', cur', hv, _, ⟨fr', hh', _⟩, _⟩
                                  · rw [hv] at e; cases e
                                  · rw [hv] at e
                                    rcases HO6.out.2 with ⟨hv2, _⟩ | ⟨g3', off3, cap3, cur3, hv2, _, ⟨fr3, hh3, _⟩, _⟩
                                    · cases hv2
                                    · rw [hv2] at e
                                      injection e with e
                                      subst e
                                      rw [hh'] at hh3
                                      injection hh3 with hh3
                                      injection hh3 with _ h4 _
                                      exact absurd h4 (by decide))
                                have HB9 : Hid (Below w.heap.size w w1) := by show Below _ _ _; rw [hw8]; exact hb8.setCell HWG.out _
                                have HK1 : Hid (Cel w1 g1 45 3 (gotF (.slice none 0 0) ⟨#[]⟩ 0)) := by show Cel _ _ _ _ _; rw [hw8]; exact hk1.setFar (a := ⟨g2, 0, none⟩) hg12 _
                                have HK2' : Hid (Cel w1 g2 45 3 (gotF (.slice A9 (i + 1) c9) ⟨#[]⟩ 0)) := by
                                  show Cel _ _ _ _ _
                                  rw [hw8]
                                  exact (hk2.set 0 (.slice A9 (i + 1) c9)).congr fun j hj => by rcases j with _ | _ | _ | j <;> first | rfl | omega
                                have HKF : Hid (OwnS w1 w.heap.size 71 1 (.slice (some ⟨bf, of, none⟩) 256 cc) 256 (fansV b 256)) := by show OwnS _ _ _ _ _ _ _; rw [hw8]; exact hkf.setFar (a := ⟨g2, 0, none⟩) (fun e => hkf.ne_cel hk2 (by decide) e) _
                                have HKR : Hid (OwnS w1 w.heap.size 30 5 (.slice A9 (i + 1) c9) (i + 1) (entsV b n (i + 1))) := by show OwnS _ _ _ _ _ _ _; rw [hw8, entsV_succ]; exact ho9.setFar (a := ⟨g2, 0, none⟩) (fun e => ho9.ne_cel hk2 (by decide) e) _
                                clear hd hG8 hw8 h9 hv9 ho9 hg9 hb8 hz9 hk1 hk2 hkf HX1 HX2 HO6 HC16 HC26 HR6 HB6
                                simp only [putAll]
                                go_simp
                                go_wp2
                                go_roundw
                                case rel => exact ⟨i + 1, A9, c9, rfl, by rw [← HK2.out]; first | done | rfl | simp, by omega, HNX.out, HKF.out, HK1.out, HK2'.out, HKR.out, HB9.out⟩
                                case measure => simp [intOf]; omega
                          · have HE : Hid (errV b = 3) := err_acc (by rw [HN.out]; exact HLC.out.1) (acc_badO hbo hlt HNN.out)
                            clear hbo
                            have hC := HC16.out
                            go_wp2_with (refine wpList_store_part (vs := gotA (.slice none 0 0) ⟨#[]⟩ 3) (off := 0) rfl (.tmp 2) (.tmp 157) rfl rfl rfl hC (info_got _ _ _) (Nat.le_refl 3) (gotA_one _ _ _ _ _) ?_; intro w9 hC9 hg9 hs9; have hC7 := got_stored hC9)
                            exact bodyPost_ret (v := .agg (gotA (.slice none 0 0) ⟨#[]⟩ 3)) (results_cel rfl _ rfl hC7 Try.underlying45 rfl (info_got _ _ _) (Nat.le_refl 3) (fun j hj => gotA_at _ _ _ j hj)) rfl (GotPost.no HE.out (by decide) (HB6.out.grown hg9 HB6.out.size (fun k h => by injection h with h; rw [← h, HG1.out]; exact Nat.le_refl _)))
                    · skip
                      obtain rfl : n = i := by omega
                      have q1 : decide ((n : Int) < (n : Int)) = false := decide_eq_false (by omega)
                      have q1' : decide (n < n) = false := decide_eq_false (by omega)
                      have hacc : accB b = true := HA.out.trans HOK.out
                      have HAC := Lib.hid hacc
                      obtain ⟨m, hm⟩ : ∃ m, N - 20 = m := ⟨_, rfl⟩
                      obtain ⟨kk, hkk⟩ : ∃ k, N - 40 = k := ⟨_, rfl⟩
                      have hNb := HLC.out.1
                      have hcb := HLC.out.2
                      have s1 : IntKind.i64.wrap ((N : Int) - 20) = (m : Int) := by rw [IntWalk.i64_in _ (by omega)]; omega
                      have s2 : IntKind.i64.wrap ((m : Int) - 20) = (kk : Int) := by rw [IntWalk.i64_in _ (by omega)]; omega
                      have v1 : kk ≤ m := by omega
                      have v2 : m ≤ c := by omega
                      have v3 : ¬ c = kk := by omega
                      have v4 : m - kk = 20 := by omega
                      have v5 : ¬ c = m := by omega
                      have v6 : N - m = 20 := by omega
                      have v7 : m ≤ N := by omega
                      have hpk : (b.drop kk).take 20 = (b.drop (b.length - 40)).take 20 := by rw [HN.out, hkk]
                      have HPK : Hid (strOfNums (hexL ((b.drop kk).take 20)) = strOfNums (packV b)) := by show _ = _; rw [hpk]; rfl
                      have hlk : ((b.drop kk).take 20).length = 20 := by rw [List.length_take, List.length_drop, HN.out]; omega
                      have HX1 := Lib.hid (hexR_any (some ⟨blk, off + kk, none⟩) 20 (c - kk) ((b.drop kk).take 20) wr (((HI.out.below HBL.out).drop kk).take 20) hlk ((HB.out.drop kk).take 20) (by decide))
                      have hlm : (b.take m).length = m := by rw [List.length_take, HN.out]; omega
                      have HLM := Lib.hid hlm
                      have HLD : Hid ((b.drop m).length = 20) := by show _ = _; rw [List.length_drop, HN.out]; exact v6
                      have hsum : ((strOfNums (shaAll (b.take m))).toList == (strOfNums (b.drop m)).toList) = sumB b := by
                        rw [str_eq _ _ (shaAll_bytes _) (HB.out.drop m)]
                        unfold sumB
                        rw [HN.out, hm]
                      have HSUM := Lib.hid hsum
                      have HSH := Lib.hid (fun W => refSum_any (b.take m) W (HB.out.take m) (by rw [hlm]; omega))
                      have HR1 := Lib.hid (own_obs HR.out)
                      have HENT : Hid (entsL b = (List.range n).map (entV b n)) := by show _ = _; unfold entsL; rw [HNN.out]
                      clear hacc hm hkk hNb hcb hpk hlk hlm hsum hlt hf0 hin
                      go_wp2_with fail
                      refine HX1.out.mono ?_
                      rintro e w5 ⟨rfl, hb5⟩
                      rw [HPK.out]
                      have hc5_ := HC2.out.below hb5 HC2.out.blk
                      have u1 := hc5_.cell 1 (by decide)
                      have u2 := hc5_.frozen 1
                      have HC7 : Hid (Cel (w5.setCell ⟨g2, 1, none⟩ (.string (strOfNums (packV b)))) g2 45 3 (gotF (.slice A5 n cc5) (strOfNums (packV b)) 0)) := (hc5_.set 1 (.string (strOfNums (packV b)))).congr fun j hj => by rcases j with _ | _ | _ | j <;> first | rfl | omega
                      have HC17 : Hid (Cel (w5.setCell ⟨g2, 1, none⟩ (.string (strOfNums (packV b)))) g1 45 3 (gotF (.slice none 0 0) ⟨#[]⟩ 0)) := (HC1.out.below hb5 HC1.out.blk).setFar (a := ⟨g2, 1, none⟩) hg12 _
                      have HB7 : Hid (Below w.heap.size w (w5.setCell ⟨g2, 1, none⟩ (.string (strOfNums (packV b))))) := (HBL.out.trans (hb5.mono HBL.out.size)).setCell HWG.out _
                      have HOB7 : Hid (OwnS (w5.setCell ⟨g2, 1, none⟩ (.string (strOfNums (packV b)))) w.heap.size 30 5 (.slice A5 n cc5) n (entsV b n n)) := ((HR.out.chg (S := fun _ => False) (Chg.of_below hb5) (fun _ _ h => h))).setFar (a := ⟨g2, 1, none⟩) (fun e => HR.out.ne_cel HC2.out (by decide) e) _
                      clear hc5_ hb5 HX1 HC1 HC2 HR HBL HO HR1
                      obtain ⟨PK, hPK⟩ : ∃ s, strOfNums (packV b) = s := ⟨_, rfl⟩
                      rw [hPK] at HC7 HC17 HB7 HOB7 HPK ⊢
                      have HPV := Lib.hid hPK
                      clear hPK
                      go_wp2
                      clear u1 u2
                      generalize w5.setCell ⟨g2, 1, none⟩ (.string PK) = w7 at *
                      have HCM0 : Hid (∀ W, Below w7.heap.size w7 W → (convert 24 9 (.slice (some ⟨blk, off, none⟩) m c)).run Try.prog W = .ok (.string (strOfNums (b.take m))) W) := fun W hW => by
                        have := run_str_ints (P := Try.prog) (w := W) 24 9 5 Try.underlying24 Try.underlying5 Try.underlying9 (some ⟨blk, off, none⟩) c (b.take m) ((HI.out.below (HB7.out.trans (hW.mono HB7.out.size))).take m)
                        rw [HLM.out] at this
                        exact this
                      have HCD : Hid (∀ W, Below w7.heap.size w7 W → (convert 24 9 (.slice (some ⟨blk, off + m, none⟩) 20 (c - m))).run Try.prog W = .ok (.string (strOfNums (b.drop m))) W) := fun W hW => by
                        have := run_str_ints (P := Try.prog) (w := W) 24 9 5 Try.underlying24 Try.underlying5 Try.underlying9 (some ⟨blk, off + m, none⟩) (c - m) (b.drop m) ((HI.out.below (HB7.out.trans (hW.mono HB7.out.size))).drop m)
                        rw [HLD.out] at this
                        exact this
                      obtain ⟨SM, hSM⟩ : ∃ s, strOfNums (b.take m) = s := ⟨_, rfl⟩
                      have HCM : Hid (∀ W, Below w7.heap.size w7 W → (convert 24 9 (.slice (some ⟨blk, off, none⟩) m c)).run Try.prog W = .ok (.string SM) W) := by rw [hSM] at HCM0; exact HCM0
                      rw [hSM] at HSH
                      clear hSM HCM0
                      go_upto_region 54 with (fail)
                      go_cut [230] (fun v wx => v = .bool (!sumB b) ∧ Below w7.heap.size w7 wx)
                      case first => as_aux_lemma =>
                        go_wp2
                        refine wp_region_ph (by kernel_rfl) [4] [.span 0 0, .span 0 0, .span 0 0, .span 0 0, .phase 0, .span 1 1, .span 0 1, .span 0 1, .span 0 1, .span 0 1, .span 1 1] [fun z9 => z9 = .slice (some ⟨blk, off, none⟩) N c, fun z9 => z9 = .int .i64 (m : Int), fun z9 => z9 = .slice (some ⟨blk, off, none⟩) m c, fun z9 => z9 = .string SM, fun _ => True, fun z9 => z9 = .string (strOfNums (shaAll (b.take m))), fun z9 => z9 = .slice (some ⟨blk, off, none⟩) N c, fun z9 => z9 = .int .i64 (m : Int), fun z9 => z9 = .slice (some ⟨blk, off + m, none⟩) 20 (c - m), fun z9 => z9 = .string (strOfNums (b.drop m)), fun z9 => z9 = .bool (!sumB b)] (ISum w7 (shaAll (b.take m))) (by kernel_rfl) (by kernel_rfl) (by kernel_rfl) (by kernel_rfl) (by kernel_rfl) (by kernel_rfl) rfl rfl ((Below.refl _ _).drew) ?steps ?done
                        case steps =>
                          refine ⟨?_, ?_, ?_, ?_, ?_, ?_, ?_, ?_, ?_, ?_, ?_, trivial⟩
                          · intro us au w1 k0 hlo hhi ha hd hst hI
                            obtain rfl : k0 = 0 := by omega
                            have q0 := slot_far (t := 0) (v := .slice (some ⟨blk, off, none⟩) N c) ha (by kernel_rfl) (by kernel_rfl)
                            have p0 := slot_norm q0
                            clear ha hd hst
                            exact StepI.pure (v := .slice (some ⟨blk, off, none⟩) N c) rfl rfl (by go_simp) ⟨rfl, hI⟩
                          · intro us au w1 k1 hlo hhi ha hd hst hI
                            obtain rfl : k1 = 0 := by omega
                            have q20 := slot_far (t := 20) (v := .int .i64 (m : Int)) ha (by kernel_rfl) (by kernel_rfl)
                            have p20 := slot_norm q20
                            clear ha hd hst
                            exact StepI.pure (v := .int .i64 (m : Int)) rfl rfl (by go_simp) ⟨rfl, hI⟩
                          · intro us au w1 k2 hlo hhi ha hd hst hI
                            obtain rfl : k2 = 0 := by omega
                            have e0 := hd 0 _ (by kernel_rfl) rfl
                            have e1 := hd 1 _ (by kernel_rfl) rfl
                            have q220 := slot_at (t := 220) 0 ha (by kernel_rfl) (by kernel_rfl) (by kernel_rfl) e0
                            have p220 := slot_norm q220
                            have q221 := slot_at (t := 221) 1 ha (by kernel_rfl) (by kernel_rfl) (by kernel_rfl) e1
                            have p221 := slot_norm q221
                            clear ha hd hst
                            exact StepI.pure (v := .slice (some ⟨blk, off, none⟩) m c) rfl rfl (by go_simp) ⟨rfl, hI⟩
                          · intro us au w1 k3 hlo hhi ha hd hst hI
                            obtain rfl : k3 = 0 := by omega
                            have e2 := hd 2 _ (by kernel_rfl) rfl
                            have q222 := slot_at (t := 222) 2 ha (by kernel_rfl) (by kernel_rfl) (by kernel_rfl) e2
                            have p222 := slot_norm q222
                            clear ha hd hst
                            have hcv := HCM.out w1 hI.low
                            exact StepI.pure (v := .string SM) rfl rfl (by go_simp) ⟨rfl, hI⟩
                          · intro us au w1 ha hd hst hI
                            have e3 := hd 3 _ (by kernel_rfl) rfl
                            have q223 := slot_at (t := 223) 3 ha (by kernel_rfl) (by kernel_rfl) (by kernel_rfl) e3
                            have p223 := slot_norm q223
                            clear ha hd hst
                            refine StepI.call (f := 18) (args := #[.string SM]) rfl rfl (by go_simp) ?_
                            refine (HSH.out w1).mono ?_
                            rintro e w' ⟨A2, c2_, rfl, ho2, hbl⟩
                            exact ⟨_, rfl, trivial, Below.trans hI (hbl.mono (Below.size hI)), A2, c2_, rfl, OwnS.ints ho2⟩
                          · intro us au w1 k5 hlo hhi ha hd hst hI
                            obtain rfl : k5 = 1 := by omega
                            obtain ⟨_⟩ := hd 4 _ (by kernel_rfl) rfl
                            have q224 := slot_at (t := 224) 4 ha (by kernel_rfl) (by kernel_rfl) (by kernel_rfl) (Eq.refl (us 4))
                            have p224 := slot_norm q224
                            clear ha hd hst
                            obtain ⟨hb9, A9, c9, hv5, h5⟩ := hI
                            have hcv := run_str_ints (P := Try.prog) (w := w1) 24 9 5 Try.underlying24 Try.underlying5 Try.underlying9 A9 c9 (shaAll (b.take m)) h5
                            rw [hv5] at p224
                            exact StepI.pure (v := .string (strOfNums (shaAll (b.take m)))) rfl rfl (by go_simp) ⟨rfl, hb9, A9, c9, hv5, h5⟩
                          · intro us au w1 k6 hlo hhi ha hd hst hI
                            have q0 := slot_far (t := 0) (v := .slice (some ⟨blk, off, none⟩) N c) ha (by kernel_rfl) (by kernel_rfl)
                            have p0 := slot_norm q0
                            clear ha hd hst
                            exact StepI.pure (v := .slice (some ⟨blk, off, none⟩) N c) rfl rfl (by go_simp) ⟨rfl, hI⟩
                          · intro us au w1 k7 hlo hhi ha hd hst hI
                            have q20 := slot_far (t := 20) (v := .int .i64 (m : Int)) ha (by kernel_rfl) (by kernel_rfl)
                            have p20 := slot_norm q20
                            clear ha hd hst
                            exact StepI.pure (v := .int .i64 (m : Int)) rfl rfl (by go_simp) ⟨rfl, hI⟩
                          · intro us au w1 k8 hlo hhi ha hd hst hI
                            have e6 := hd 6 _ (by kernel_rfl) rfl
                            have e7 := hd 7 _ (by kernel_rfl) rfl
                            have q226 := slot_at (t := 226) 6 ha (by kernel_rfl) (by kernel_rfl) (by kernel_rfl) e6
                            have p226 := slot_norm q226
                            have q227 := slot_at (t := 227) 7 ha (by kernel_rfl) (by kernel_rfl) (by kernel_rfl) e7
                            have p227 := slot_norm q227
                            clear ha hd hst
                            exact StepI.pure (v := .slice (some ⟨blk, off + m, none⟩) 20 (c - m)) rfl rfl (by go_simp) ⟨rfl, hI⟩
                          · intro us au w1 k9 hlo hhi ha hd hst hI
                            have e8 := hd 8 _ (by kernel_rfl) rfl
                            have q228 := slot_at (t := 228) 8 ha (by kernel_rfl) (by kernel_rfl) (by kernel_rfl) e8
                            have p228 := slot_norm q228
                            clear ha hd hst
                            have hcv := HCD.out w1 hI.low
                            exact StepI.pure (v := .string (strOfNums (b.drop m))) rfl rfl (by go_simp) ⟨rfl, hI⟩
                          · intro us au w1 k10 hlo hhi ha hd hst hI
                            obtain rfl : k10 = 1 := by omega
                            have e5 := hd 5 _ (by kernel_rfl) rfl
                            have e9 := hd 9 _ (by kernel_rfl) rfl
                            have q225 := slot_at (t := 225) 5 ha (by kernel_rfl) (by kernel_rfl) (by kernel_rfl) e5
                            have p225 := slot_norm q225
                            have q229 := slot_at (t := 229) 9 ha (by kernel_rfl) (by kernel_rfl) (by kernel_rfl) e9
                            have p229 := slot_norm q229
                            clear ha hd hst
                            have hq := HSUM.out
                            exact StepI.pure (v := .bool (!sumB b)) rfl rfl (by go_simp) ⟨rfl, hI⟩
                        case done =>
                          intro us w1 hI hd
                          have e10 := hd 10 _ (by decide) rfl
                          have E10 := Lib.hid e10
                          have HLOW := Lib.hid hI.low
                          clear hd e10 hI HCM HCD HSH
                          simp only [putAll]
                          go_simp
                          go_wp2
                          go_meet
                          exact ⟨E10.out, HLOW.out⟩
                      case rest =>
                        obtain ⟨rfl, hB8⟩ := hcut
                        have HC78 := Lib.hid (HC7.out.below hB8 HC7.out.blk)
                        have HC18 := Lib.hid (HC17.out.below hB8 HC17.out.blk)
                        have HOB8 : Hid (OwnS wc w.heap.size 30 5 (.slice A5 n cc5) n (entsV b n n)) := HOB7.out.chg (S := fun _ => False) (Chg.of_below hB8) (fun _ _ h => h)
                        have HB8 := Lib.hid (HB7.out.trans (hB8.mono HB7.out.size))
                        clear hB8 HC7 HC17 HOB7 HB7 HCM HCD HSH HSUM
                        generalize wc = w8 at *
                        cases hs : sumB b
                        · have HE : Hid (errV b = 6) := by
                            show _ = _
                            unfold errV
                            rw [if_neg (by rw [HN.out]; have := HLC.out.1; omega), if_neg (by rw [HAC.out]; decide), if_pos hs]
                          clear hs
                          have hC := HC18.out
                          go_wp2_with (refine wpList_store_part (vs := gotA (.slice none 0 0) ⟨#[]⟩ 6) (off := 0) rfl (.tmp 2) (.tmp 231) rfl rfl rfl hC (info_got _ _ _) (Nat.le_refl 3) (gotA_one _ _ _ _ _) ?_; intro w9 hC9 hg9 hs9; have hC7 := got_stored hC9)
                          exact bodyPost_ret (v := .agg (gotA (.slice none 0 0) ⟨#[]⟩ 6)) (results_cel rfl _ rfl hC7 Try.underlying45 rfl (info_got _ _ _) (Nat.le_refl 3) (fun j hj => gotA_at _ _ _ j hj)) rfl (GotPost.no HE.out (by decide) (HB8.out.grown hg9 HB8.out.size (fun k h => by injection h with h; rw [← h, HG1.out]; exact Nat.le_refl _)))
                        · have HE : Hid (errV b = 0) := by
                            show _ = _
                            unfold errV
                            rw [if_neg (by rw [HN.out]; have := HLC.out.1; omega), if_neg (by rw [HAC.out]; decide), if_neg (by rw [hs]; decide)]
                          clear hs
                          have hCa := HC78.out
                          have hCb := HC18.out
                          go_wp2_with (first
                            | (refine wpList_load_part (vs := gotA (.slice A5 n cc5) PK 0) (off := 0) rfl (.tmp 14) rfl rfl hCa Try.underlying45 rfl (info_got _ _ _) (Nat.le_refl 3) (fun j hj => by rw [Nat.zero_add]; exact gotA_at _ _ _ j hj) ?_)
                            | (refine wpList_store_part (vs := gotA (.slice A5 n cc5) PK 0) (off := 0) rfl (.tmp 2) (.tmp 232) rfl rfl rfl hCb (info_got _ _ _) (Nat.le_refl 3) (gotA_one _ _ _ _ _) ?_; intro w9 hC9 hg9 hs9; have hC9 := got_stored hC9))
                          have HBX := Lib.hid (HB8.out.grown hg9 HB8.out.size (fun k h => by injection h with h; rw [← h, HG1.out]; exact Nat.le_refl _))
                          have HOX := Lib.hid (own_obs (HOB8.out.kept hg9 (.inr fun e => HOB8.out.ne_cel HC18.out (by decide) e)))
                          rw [← HPV.out]
                          rw [← HPV.out] at hC9
                          exact bodyPost_ret (v := .agg (gotA (.slice A5 n cc5) (strOfNums (packV b)) 0)) (results_cel rfl _ rfl hC9 Try.underlying45 rfl (info_got _ _ _) (Nat.le_refl 3) (fun j hj => gotA_at _ _ _ j hj)) rfl (GotPost.yes HE.out HNN.out (by rw [HENT.out]; exact HOX.out) HBX.out)
                · have t1 : ((N : Int) == 1072 + 28 * (n : Int) + 8 * (f : Int)) = false := by rw [beq_eq_false_iff_ne]; omega
                  have HE : Hid (errV b = 3) := err_acc (by rw [HN.out]; exact hl) (by unfold accB; rw [HWH.out, decide_eq_false hw]; cases headB b <;> cases okToB b (cntN b) (cntN b) <;> rfl)
                  clear hw e1 e2 e3 e4 e5 e6 s8 s9 hn4 hnb hl hc
                  have hC := HC.out
                  go_wp2_with (refine wpList_store_part (vs := gotA (.slice none 0 0) ⟨#[]⟩ 3) (off := 0) rfl (.tmp 2) (.tmp 96) rfl rfl rfl hC (info_got _ _ _) (Nat.le_refl 3) (gotA_one _ _ _ _ _) ?_; intro w9 hC9 hg9 hs9; have hC7 := got_stored hC9)
                  exact bodyPost_ret (v := .agg (gotA (.slice none 0 0) ⟨#[]⟩ 3)) (results_cel rfl _ rfl hC7 Try.underlying45 rfl (info_got _ _ _) (Nat.le_refl 3) (fun j hj => gotA_at _ _ _ j hj)) rfl (GotPost.no HE.out (by decide) (HBL.out.grown hg9 HBL.out.size (fun k h => by injection h with h; rw [← h, HG1.out]; exact Nat.le_refl _)))
  · have HE : Hid (errV b = 3) := err_acc (by rw [HN.out]; exact hl) (head_no (by unfold headB; rw [decide_eq_false hm]; rfl))
    have hne : strOfNums (b.take 8) ≠ ⟨#[255, 116, 79, 99, 0, 0, 0, 2]⟩ := fun e => hm (by
      have h1 := bytesOf_str (b.take 8) (HB.out.take 8)
      rw [e] at h1
      exact h1.symm)
    generalize strOfNums (b.take 8) = S at *
    have hne1 : ¬ S.toList = [255, 116, 79, 99, 0, 0, 0, 2] := fun e => hne (WideShapes.bytes_inj (by
      rw [ByteArray.toList_eq] at e
      exact e))
    have hne2 : (S.toList == [255, 116, 79, 99, 0, 0, 0, 2]) = false := beq_eq_false_iff_ne.2 hne1
    clear hm hne
    have hC := HG.out
    go_wp2_with (refine wpList_store_part (vs := gotA (.slice none 0 0) ⟨#[]⟩ 3) (off := 0) rfl (.tmp 2) (.tmp 29) rfl rfl rfl hC (info_got _ _ _) (Nat.le_refl 3) (gotA_one _ _ _ _ _) ?_; intro w9 hC9 hg9 hs9; have hC7 := got_stored hC9)
    exact bodyPost_ret (v := .agg (gotA (.slice none 0 0) ⟨#[]⟩ 3)) (results_cel rfl _ rfl hC7 Try.underlying45 rfl (info_got _ _ _) (Nat.le_refl 3) (fun j hj => gotA_at _ _ _ j hj)) rfl (GotPost.no HE.out (by decide) (HB0.out.grown hg9 HB0.out.size (fun k h => by injection h with h; rw [← h, HG1.out]; exact Nat.le_refl _)))
end Go.Proofs.Ytndjebddgnmpfaa
