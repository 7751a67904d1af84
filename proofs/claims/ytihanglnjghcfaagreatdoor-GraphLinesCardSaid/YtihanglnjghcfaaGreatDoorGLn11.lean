/- Rows of texts sorted: slices.Sort. -/
import Derived.Test.YtihanglnjghcfaaGreatDoorGLn10
import Derived.Test.YtihanglnjghcfaaGreatDoorGLn9
import Derived.Test.YtihanglnjghcfaaGreatDoorGLn3
import Derived.Laws.MakeOwn
namespace Go.Proofs.YtihanglnjghcfaaGreatDoor
open Go.RowKit Go.Maps Go.Sort
set_option linter.unusedVariables false
set_option linter.unusedSimpArgs false

theorem putRow_owns {w : World} {B blk off cap : Nat} {e : TypeId} {P Q : List Gid} (h : OwnS w B e 1 (.slice (some ⟨blk, off, none⟩) P.length cap) P.length (strVs P)) (hq : Q.length = P.length) :
 OwnS (putRow encStr w blk off Q.toArray) B e 1 (.slice (some ⟨blk, off, none⟩) Q.length cap) Q.length (strVs Q) := by
 refine ⟨by simp [strVs], ?_⟩
 rcases h.2 with ⟨hv, _⟩ | ⟨g, o, c', cur, hv, hb, ⟨fr, hg, hf⟩, hn, hm, hs, ht⟩
 · cases hv
 · injection hv with hA _ hc
   injection hA with hA
   injection hA with h1 h2
   subst h1; subst h2; subst hc
   refine .inr ⟨blk, off, cap, putCells encStr off Q.toArray cur, rfl, hb, ⟨fr, ?_, ?_⟩, by rw [hq]; exact hn, hm, ?_, ?_⟩
   · simp [putRow, mapBlock, Array.getElem?_modify, hg, onCells]
   · unfold putCells; rw [Array.size_mapIdx]; exact hf
   · unfold putCells; rw [Array.size_mapIdx]; exact hs
   · apply List.ext_getElem?
     intro i
     have hsz : off + P.length ≤ cur.size := by omega
     rw [List.getElem?_take, List.getElem?_drop, Array.getElem?_toList]
     unfold putCells strVs
     rw [Array.getElem?_mapIdx, List.getElem?_map]
     by_cases hi : i < Q.length * 1
     · rw [if_pos hi, Array.getElem?_eq_getElem (show off + i < cur.size by omega), Option.map_some, if_pos ⟨by omega, by simp; omega⟩, show off + i - off = i by omega, List.getElem?_eq_getElem (show i < Q.length by omega)]
       simp only [Option.map_some]
       congr 1
       have : (Q.toArray)[i]! = Q[i] := by rw [getElem!_pos _ _ (by simp; omega)]; simp
       rw [this]
       rfl
     · rw [if_neg hi, List.getElem?_eq_none (by omega)]; rfl
set_option maxRecDepth 100000 in
/-- slices.Sort of a row of texts. -/
theorem sortsS : SortsS := by
 intro w B A n c P h hn
 have hl := h.strs
 subst hl
 by_cases h0 : P.length = 0
 · have hP : P = [] := List.length_eq_zero_iff.1 h0
   subst hP
   refine (Tryz.slices_Sort_string_none A c w).mono ?_
   rintro e w' ⟨rfl, rfl⟩
   exact ⟨rfl, by unfold sortG; simpa using h, Chg.refl _ _⟩
 · obtain ⟨blk, off, c', hv, hb, hlt, hcl⟩ := h.cells (by simp [strVs]; omega)
   injection hv with hA _ hc
   subst hA; subst hc
   have hH : Holds encStr w blk off P.toArray := fun j hj => by
    have hj2 : j < P.length := by simpa using hj
    refine ⟨?_, (h.free (j := j) (by simp [strVs]; exact hj2)).1⟩
    rw [hcl j (by simp [strVs]; exact hj2)]
    unfold strVs
    rw [List.getElem?_map, List.getElem?_eq_getElem hj2, Option.map_some]
    have : (P.toArray)[j]! = P[j] := by rw [getElem!_pos P.toArray j (by simpa using hj2)]; simp
    rw [this]
    rfl
   refine (Tryz.slices_Sort_string blk off c P w hH hlt (by omega)).mono ?_
   rintro e w' ⟨rfl, m, os, rfl⟩
   have hq := sortG_len P
   have h1 : OwnS (putRow encStr (Go.Sort.ahead w m) blk off (sortG P).toArray) B 9 1 (.slice (some ⟨blk, off, none⟩) (sortG P).length c) (sortG P).length (strVs (sortG P)) := putRow_owns (w := Go.Sort.ahead w m) (h.heap fun _ _ => rfl) hq
   rw [hq] at h1
   have hbk : ∀ k, k < w.heap.size → (grow (putRow encStr (Go.Sort.ahead w m) blk off (sortG P).toArray) os).heap[k]? = (putRow encStr (Go.Sort.ahead w m) blk off (sortG P).toArray).heap[k]? := fun k hk => by
    unfold grow
    rw [Array.getElem?_append_left (by simp [putRow, mapBlock]; exact hk)]
   refine ⟨rfl, h1.heap fun k hk => hbk k (by have := (h1.lt k hk).2; simpa [putRow, mapBlock] using this), ?_⟩
   refine ⟨rfl, rfl, rfl, by simp [grow, putRow, mapBlock], fun k hk hn => ?_⟩
   refine (hbk k hk).trans ?_
   have hne : blk ≠ k := fun e => hn (by subst e; rfl)
   simp [putRow, mapBlock, Array.getElem?_modify, hne]
end Go.Proofs.YtihanglnjghcfaaGreatDoor
namespace Go.Proofs.YtihanglnjghcfaaGreatDoor
open Go.RowKit Go.Maps
set_option linter.unusedVariables false
set_option linter.unusedSimpArgs false

/-- An object's ID. -/
def idK (k : Int) (b : List UInt8) : Gid := (strOfNums (hexL (shaAll (headL k (bk b).size ++ bytesOf (bk b))))).data.toList
/-- One object more, if its ID is not there. -/
def addK (R : List Kn) (k : Int) (b : List UInt8) : List Kn := if (getK R (idK k b)).isSome then R else R ++ [⟨k, b, idK k b⟩]
def AddK (K : Nat → Prop) (r : Nat) (R : List Kn) (k : Int) (b : List UInt8) (w : World) (e : Ending) (w' : World) : Prop :=
 e = .returned (.string (bk (idK k b))) ∧ RepAt w' K r (addK R k b) ∧ Chg K w w'
theorem Src.kn {P : Program} (w : World) (x : Kn) (t : TypeId) : Src P (w.alloc (.cells #[.int .i64 x.kd, .string (bk x.b), .string (bk x.id)] t)) 3 (.slice (some ⟨w.heap.size, 0, none⟩) 1 1) 1 (knV x) :=
 Src.vals rfl (by intro u hu; simp [knV] at hu; rcases hu with rfl | rfl | rfl <;> rfl) (fun _ => ⟨_, rfl, World.news_of_block (heap_alloc_new w _)⟩)
set_option maxRecDepth 100000 in
set_option maxHeartbeats 4000000 in
theorem radd_any (K : Nat → Prop) (r : Nat) (R : List Kn) (k : Int) (b : List UInt8) (w : World) (h : RepAt w K r R) (hK : ∀ k, w.heap.size ≤ k → K k) (hl : R.length ≤ 1048576) (hb : b.length ≤ 140737488351232) :
 Calls Tryz.prog 12 #[.pointer (some ⟨r, 0, none⟩), .int .i64 k, .string (bk b)] w (AddK K r R k b w) := by
 obtain ⟨i0, hi, hz0, hz1, hz2⟩ := info_parts info_kn
 have HID := Lib.hid (ridB_any k (bk b) w (by rw [bk_size]; exact hb))
 have hidv : strOfNums (hexL (shaAll (headL k (bk b).size ++ bytesOf (bk b)))) = bk (idK k b) := by unfold idK; rw [bk_of]
 rw [hidv] at HID
 have HR := Lib.hid h
 have HK := Lib.hid hK
 have HL := Lib.hid hl
 generalize hidk : idK k b = d at *
 have HDK := Lib.hid hidk
 clear h hK hl hb hidv hidk
 go_enter Tryz.func12, Tryz.ntmps12
 go_wp2_with fail
 refine HID.out.mono ?_
 rintro e w1 ⟨rfl, hb1⟩
 have HR1 := Lib.hid (HR.out.below hb1)
 have HB1 := Lib.hid hb1
 have HGT := Lib.hid (rget_any w1 K r R d HR1.out (by have := HL.out; omega))
 clear hb1
 go_wp2_with fail
 refine HGT.out.mono ?_
 rintro e w2 ⟨rfl, hb2⟩
 have HR2 := Lib.hid (HR1.out.below hb2)
 have HB2 := Lib.hid (HB1.out.trans (hb2.mono HB1.out.size))
 clear hb2
 cases hgk : getK R d with
 | none =>
  have HRES : Hid (addK R k b = R ++ [⟨k, b, d⟩]) := Lib.hid (by unfold addK; rw [HDK.out, hgk]; rfl)
  clear hgk
  unfold getV zeroK
  go_upto_region 3 with (fail)
  have HB3 : Hid (Below w.heap.size w (w2.alloc (.cells #[.int .i64 0, .string ⟨#[]⟩, .string ⟨#[]⟩] 27))) := Lib.hid (HB2.out.trans (((Below.refl _ _).alloc (Nat.le_refl _) _).mono HB2.out.size))
  have HR3 : Hid (RepAt (w2.alloc (.cells #[.int .i64 0, .string ⟨#[]⟩, .string ⟨#[]⟩] 27)) K r R) := Lib.hid (HR2.out.below ((Below.refl _ _).alloc (Nat.le_refl _) _))
  generalize w2.alloc (.cells #[.int .i64 0, .string ⟨#[]⟩, .string ⟨#[]⟩] 27) = w3 at *
  obtain ⟨hKr, A, c, vR, vH, vT, hce, how, hoK⟩ := HR3.out
  have hnr : Value.ownBlock (.slice A R.length c) ≠ some r := how.ne_cel hce (by decide)
  have k0 : w3.cell? ⟨r, 0, none⟩ = some (.slice A R.length c) := hce.cell 0 (by decide)
  have HCE := Lib.hid hce
  have HKR := Lib.hid (And.intro hKr (And.intro hoK hnr))
  have HSRC := Lib.hid (Src.kn (P := Tryz.prog) w3 ⟨k, b, d⟩ 27)
  have HOA := Lib.hid (how.alloc (.cells #[.int .i64 k, .string (bk b), .string (bk d)] 27))
  have hm9 : R.length + 1 ≤ maxLen := by have := HL.out; unfold maxLen; omega
  have hb9 : (R.length + 1) * 40 ≤ 140737488355328 := by have := HL.out; omega
  clear hce how hoK hKr hnr
  cases vT
  all_goals
   go_wp2_with (at_builtin; go_loud (refine wpList_append_S rfl (.tmp 25) (.tmp 30) 23 23 rfl i0 (.agg #[.int .i64 0, .string ⟨#[]⟩, .string ⟨#[]⟩]) 40 (.slice 27) Tryz.underlying23 Tryz.underlying23 (fun _ h => by cases h) hi hz0 hz1 hz2 rfl rfl rfl HOA.out HSRC.out hm9 hb9 (Nat.zero_le _) ?_; intro A8 c8 w8; generalize hnn : R.length + 1 = nn at *; intro ho8 hg8 hw8; have HCE8 := Lib.hid ((HCE.out.alloc (.cells #[.int .i64 k, .string (bk b), .string (bk d)] 27)).grown hg8 HKR.out.2.2); have q8 := HCE8.out.cell 0 (by decide); have z8 := HCE8.out.frozen 0; have q9 := (HCE8.out.set 0 (.slice A8 nn c8)).cell 3 (by decide); have z9 := (HCE8.out.set 0 (.slice A8 nn c8)).frozen 3; have HO8 := Lib.hid ho8; have HG8 := Lib.hid hg8; have HH8 := Lib.hid hw8; have HNN := Lib.hid hnn; clear ho8 hg8 hw8 hnn; simp only [repF] at q9))
   have HEND : ∀ vb : Bool, AddK K r R k b w (.returned (.string (bk d))) ((w8.setCell ⟨r, 0, none⟩ (.slice A8 nn c8)).setCell ⟨r, 3, none⟩ (.bool vb)) := fun vb => by
    unfold AddK
    rw [HRES.out, HDK.out]
    have hne8 : Value.ownBlock (.slice A8 nn c8) ≠ some r := HO8.out.ne_cel HCE8.out (by decide)
    have e1 : (R ++ [(⟨k, b, d⟩ : Kn)]).length = nn := by rw [List.length_append]; exact HNN.out
    refine ⟨rfl, ⟨HKR.out.1, A8, c8, vR, vH, vb, ((HCE8.out.set 0 (.slice A8 nn c8)).set 3 _).congr (fun j hj => ?_), ?_, ?_⟩, ?_⟩
    · rw [e1]
      have : j = 0 ∨ j = 1 ∨ j = 2 ∨ j = 3 := by omega
      rcases this with rfl | rfl | rfl | rfl <;> rfl
    · rw [e1, List.flatMap_append]
      exact (HO8.out.setFar hne8 _).setFar hne8 _
    · rw [e1]
      intro q hq
      rcases HH8.out with h | h
      · exact HKR.out.2.1 q (h.symm.trans hq)
      · have : q = (w3.alloc (.cells #[.int .i64 k, .string (bk b), .string (bk d)] 27)).heap.size := by injection (hq.symm.trans h)
        refine HK.out q ?_
        have h2 := HB3.out.size
        rw [this]
        simp
        omega
    · refine Chg.setCell (Chg.setCell ?_ (.inl HKR.out.1) _) (.inl HKR.out.1) _
      exact ((Chg.of_below (S := K) HB3.out).alloc _).trans (Chg.of_grown (S := K) HG8.out fun q hq => HKR.out.2.1 q hq) (fun _ _ h => h)
   go_ret
   exact HEND _
 | some x =>
  have HRES : Hid (addK R k b = R) := Lib.hid (by unfold addK; rw [HDK.out, hgk]; rfl)
  clear hgk
  unfold getV knA
  go_upto_region 3 with (fail)
  have HB3 : Hid (Below w.heap.size w (w2.alloc (.cells #[.int .i64 x.kd, .string (bk x.b), .string (bk x.id)] 27))) := Lib.hid (HB2.out.trans (((Below.refl _ _).alloc (Nat.le_refl _) _).mono HB2.out.size))
  have HR3 : Hid (RepAt (w2.alloc (.cells #[.int .i64 x.kd, .string (bk x.b), .string (bk x.id)] 27)) K r R) := Lib.hid (HR2.out.below ((Below.refl _ _).alloc (Nat.le_refl _) _))
  have f0 : (w2.alloc (.cells #[.int .i64 x.kd, .string (bk x.b), .string (bk x.id)] 27)).cell? ⟨w2.heap.size, 0, none⟩ = some (.int .i64 x.kd) := by rw [World.cell?_alloc_at _ _ _ _ (by simp)]; rfl
  have f1 : (w2.alloc (.cells #[.int .i64 x.kd, .string (bk x.b), .string (bk x.id)] 27)).cell? ⟨w2.heap.size, 1, none⟩ = some (.string (bk x.b)) := by rw [World.cell?_alloc_at _ _ _ _ (by simp)]; rfl
  generalize w2.alloc (.cells #[.int .i64 x.kd, .string (bk x.b), .string (bk x.id)] 27) = w3 at *
  generalize w2.heap.size = g2 at *
  obtain ⟨hKr, A, c, vR, vH, vT, hce, how, hoK⟩ := HR3.out
  have hnr : Value.ownBlock (.slice A R.length c) ≠ some r := how.ne_cel hce (by decide)
  have k3 : w3.cell? ⟨r, 3, none⟩ = some (.bool vT) := hce.cell 3 (by decide)
  have z3 := hce.frozen 3
  have HEND : Hid (∀ vb : Bool, AddK K r R k b w (.returned (.string (bk d))) (w3.setCell ⟨r, 3, none⟩ (.bool vb))) := Lib.hid (fun vb => by
   unfold AddK
   rw [HRES.out, HDK.out]
   refine ⟨rfl, ⟨hKr, A, c, vR, vH, vb, (hce.set 3 _).congr (fun j hj => ?_), how.setFar hnr _, hoK⟩, (Chg.of_below (S := K) HB3.out).setCell (.inl hKr) _⟩
   have : j = 0 ∨ j = 1 ∨ j = 2 ∨ j = 3 := by omega
   rcases this with rfl | rfl | rfl | rfl <;> rfl)
  clear hce how hoK hKr hnr
  cases vT with
  | true =>
   go_wp2
   go_ret
   exact HEND.out true
  | false =>
   by_cases hk1 : x.kd = k
   · have d1 : (x.kd == k) = true := by rw [beq_iff_eq]; exact hk1
     by_cases hb1 : x.b = b
     · have d2 : ((bk x.b).toList == (bk b).toList) = true := by rw [hb1]; simp
       clear hb1
       go_wp2
       go_ret
       exact HEND.out false
     · have d2 : ((bk x.b).toList == (bk b).toList) = false := by rw [Lib.toList_data, Lib.toList_data, bk_list, bk_list, beq_eq_false_iff_ne]; exact hb1
       clear hb1
       go_wp2
       go_ret
       exact HEND.out true
   · have d1 : (x.kd == k) = false := by rw [beq_eq_false_iff_ne]; exact hk1
     go_wp2
     go_ret
     exact HEND.out true
end Go.Proofs.YtihanglnjghcfaaGreatDoor
namespace Go.Proofs.YtihanglnjghcfaaGreatDoor
open Go.RowKit
set_option linter.unusedVariables false
set_option linter.unusedSimpArgs false

/-- A number brought to a numeral, and used. -/
def forceI {α : Type} (x : Int) (k : Int → α) : α :=
 match x with
 | .ofNat 0 => k (.ofNat 0)
 | .ofNat (n + 1) => k (.ofNat (n + 1))
 | .negSucc n => k (.negSucc n)
theorem forceI_eq {α : Type} (x : Int) (k : Int → α) : forceI x k = k x := by
 unfold forceI
 split <;> rfl
def nextR (r : List Int) : Int := rotN 1 (bits .xor .u32 (bits .xor .u32 (bits .xor .u32 (r.getD 2 0) (r.getD 7 0)) (r.getD 13 0)) (r.getD 15 0))
def schF (xs : List Int) : Nat → Nat → List Int → List Int
 | 0, _, r => r
 | f + 1, t, r => forceI (if t < 16 then wordAt xs t else nextR r) fun w => schF xs f (t + 1) (w :: r)
theorem getD_rev (l : List Int) (j : Nat) (h : j < l.length) : l.reverse.getD j 0 = l.getD (l.length - 1 - j) 0 := by
 rw [List.getD_eq_getElem?_getD, List.getD_eq_getElem?_getD, List.getElem?_reverse h]
theorem schF_is (xs : List Int) : ∀ (f t : Nat), schF xs f t (schedTo xs t).reverse = (schedTo xs (t + f)).reverse
 | 0, t => rfl
 | f + 1, t => by
  unfold schF
  rw [forceI_eq]
  have e : (if t < 16 then wordAt xs t else nextR (schedTo xs t).reverse) :: (schedTo xs t).reverse = (schedTo xs (t + 1)).reverse := by
   rw [schedTo, List.reverse_append]
   by_cases h : t < 16
   · rw [if_pos h, if_pos h]; rfl
   · rw [if_neg h, if_neg h]
     have hl := schedTo_len xs t
     unfold nextR nextW
     rw [getD_rev _ _ (by omega), getD_rev _ _ (by omega), getD_rev _ _ (by omega), getD_rev _ _ (by omega), hl, show t - 1 - 2 = t - 3 by omega, show t - 1 - 7 = t - 8 by omega, show t - 1 - 13 = t - 14 by omega, show t - 1 - 15 = t - 16 by omega]
     rfl
  rw [e, schF_is xs f (t + 1), show t + 1 + f = t + (f + 1) by omega]
def runF (t : Nat) : List Int → Int → Int → Int → Int → Int → H5
 | [], a, b, c, d, e => ⟨a, b, c, d, e⟩
 | w :: W, a, b, c, d, e => forceI ((rotN 5 a + fT t b c d + e + kT t + w) % 4294967296) fun m => forceI (rotN 30 b) fun b' => runF (t + 1) W m a b' c d
theorem runF_is (xs : List Int) (h : H5) : ∀ (W : List Int) (t : Nat) (a b c d e : Int), (schedTo xs 80).drop t = W → (⟨a, b, c, d, e⟩ : H5) = runH xs h t → runF t W a b c d e = runH xs h (t + W.length)
 | [], t, a, b, c, d, e, _, hs => hs
 | w :: W, t, a, b, c, d, e, hd, hs => by
  have h1 : (schedTo xs 80).drop (t + 1) = W := by rw [← List.drop_drop, hd]; rfl
  have h2 : (schedTo xs 80).getD t 0 = w := by
   have := congrArg (fun l => l[0]?) hd
   simp only [List.getElem?_drop, Nat.add_zero, List.getElem?_cons_zero] at this
   rw [List.getD_eq_getElem?_getD, this]; rfl
  unfold runF
  rw [forceI_eq, forceI_eq, runF_is xs h W (t + 1) _ _ _ _ _ h1 (by rw [runH, ← hs]; unfold stepH; rw [h2]), List.length_cons, show t + 1 + W.length = t + (W.length + 1) by omega]
def mixK {α : Type} (h : H5) (xs : List Int) (k : H5 → α) : α :=
 match runF 0 (schF xs 80 0 []).reverse h.a h.b h.c h.d h.e with
 | ⟨a, b, c, d, e⟩ => forceI ((h.a + a) % 4294967296) fun a => forceI ((h.b + b) % 4294967296) fun b => forceI ((h.c + c) % 4294967296) fun c => forceI ((h.d + d) % 4294967296) fun d => forceI ((h.e + e) % 4294967296) fun e => k ⟨a, b, c, d, e⟩
theorem mixK_is {α : Type} (h : H5) (xs : List Int) (k : H5 → α) : mixK h xs k = k (mixH h xs) := by
 have e1 : (schF xs 80 0 []).reverse = schedTo xs 80 := by
  have := schF_is xs 80 0
  rw [show (schedTo xs 0).reverse = [] from rfl] at this
  rw [this, List.reverse_reverse, Nat.zero_add]
 have e2 := runF_is xs h (schedTo xs 80) 0 h.a h.b h.c h.d h.e (List.drop_zero) rfl
 rw [schedTo_len, Nat.zero_add] at e2
 unfold mixK
 rw [e1, e2]
 unfold mixH
 simp only [forceI_eq]
def fbF (n : Nat) (h : H5) (r : List Int) : H5 := match n with
 | 0 => h
 | n + 1 => mixK h r fun h' => fbF n h' (r.drop 64)
theorem fbF_is : ∀ (n : Nat) (h : H5) (r : List Int), fbF n h r = fb n h r
 | 0, h, r => rfl
 | n + 1, h, r => by
  unfold fbF fb
  rw [mixK_is, fbF_is n]
/-- SHA-1 of a message of so many blocks. -/
def shaF (n : Nat) (M : List Int) : List Int := shaTo (fbF n h0 M) 5
theorem shaF_is {xs M out : List Int} {n : Nat} (h1 : shaMsg xs (xs.length : Int) = M) (h2 : M.length / 64 = n) (h3 : shaF n M = out) : shaAll xs = out := by
 rw [shaAll_eq, h1, h2, ← fbF_is]
 exact h3
theorem digL_2 (n : Nat) (h1 : 9 < n) (h2 : n < 100) : digL n = [48 + ((n / 10 : Nat) : Int), 48 + ((n % 10 : Nat) : Int)] := by
 rw [digL_big h1, digL_small (by omega)]; rfl
theorem digL_3 (n : Nat) (h1 : 99 < n) (h2 : n < 1000) : digL n = [48 + ((n / 100 : Nat) : Int), 48 + ((n / 10 % 10 : Nat) : Int), 48 + ((n % 10 : Nat) : Int)] := by
 rw [digL_big (by omega), digL_big (by omega), digL_small (by omega), Nat.div_div_eq_div_mul]; rfl
end Go.Proofs.YtihanglnjghcfaaGreatDoor
namespace Go.Proofs.YtihanglnjghcfaaGreatDoor
open Go.RowKit
set_option linter.unusedVariables false

def et_b : List UInt8 := []
def et_d : Gid := [52, 98, 56, 50, 53, 100, 99, 54, 52, 50, 99, 98, 54, 101, 98, 57, 97, 48, 54, 48, 101, 53, 52, 98, 102, 56, 100, 54, 57, 50, 56, 56, 102, 98, 101, 101, 52, 57, 48, 52]
def et_M : List Int := [116, 114, 101, 101, 32, 48, 0, 128, 0, 0, 0, 0, 0, 0, 0, 0, 0, 0, 0, 0, 0, 0, 0, 0, 0, 0, 0, 0, 0, 0, 0, 0, 0, 0, 0, 0, 0, 0, 0, 0, 0, 0, 0, 0, 0, 0, 0, 0, 0, 0, 0, 0, 0, 0, 0, 0, 0, 0, 0, 0, 0, 0, 0, 56]
theorem et_head : headL 2 0 = [116, 114, 101, 101, 32, 48, 0] := by
 unfold headL
 rw [digL_small (by decide)]
 decide
theorem et_sha : shaF 1 et_M = [75, 130, 93, 198, 66, 203, 110, 185, 160, 96, 229, 75, 248, 214, 146, 136, 251, 238, 73, 4] := by decide +kernel
theorem et_msg : shaMsg ([116, 114, 101, 101, 32, 48, 0] ++ bytesOf (bk et_b)) 7 = et_M := by decide +kernel
theorem et_id : idK 2 et_b = et_d := by
 unfold idK
 rw [show (bk et_b).size = 0 by decide +kernel, et_head, shaF_is (xs := [116, 114, 101, 101, 32, 48, 0] ++ bytesOf (bk et_b)) et_msg (by decide +kernel) et_sha]
 decide +kernel
def ec_b : List UInt8 := [116, 114, 101, 101, 32, 52, 98, 56, 50, 53, 100, 99, 54, 52, 50, 99, 98, 54, 101, 98, 57, 97, 48, 54, 48, 101, 53, 52, 98, 102, 56, 100, 54, 57, 50, 56, 56, 102, 98, 101, 101, 52, 57, 48, 52, 10, 97, 117, 116, 104, 111, 114, 32, 65, 32, 60, 97, 62, 32, 49, 32, 43, 48, 48, 48, 48, 10, 99, 111, 109, 109, 105, 116, 116, 101, 114, 32, 65, 32, 60, 97, 62, 32, 49, 32, 43, 48, 48, 48, 48, 10, 10]
def ec_d : Gid := [54, 101, 49, 57, 99, 57, 50, 100, 99, 101, 56, 102, 49, 50, 48, 97, 50, 99, 101, 50, 100, 99, 100, 52, 100, 97, 57, 56, 49, 102, 48, 97, 51, 56, 55, 57, 57, 57, 55, 97]
def ec_M : List Int := [99, 111, 109, 109, 105, 116, 32, 57, 50, 0, 116, 114, 101, 101, 32, 52, 98, 56, 50, 53, 100, 99, 54, 52, 50, 99, 98, 54, 101, 98, 57, 97, 48, 54, 48, 101, 53, 52, 98, 102, 56, 100, 54, 57, 50, 56, 56, 102, 98, 101, 101, 52, 57, 48, 52, 10, 97, 117, 116, 104, 111, 114, 32, 65, 32, 60, 97, 62, 32, 49, 32, 43, 48, 48, 48, 48, 10, 99, 111, 109, 109, 105, 116, 116, 101, 114, 32, 65, 32, 60, 97, 62, 32, 49, 32, 43, 48, 48, 48, 48, 10, 10, 128, 0, 0, 0, 0, 0, 0, 0, 0, 0, 0, 0, 0, 0, 0, 0, 0, 0, 0, 0, 0, 0, 0, 0, 3, 48]
theorem ec_head : headL 1 92 = [99, 111, 109, 109, 105, 116, 32, 57, 50, 0] := by
 unfold headL
 rw [digL_2 _ (by decide) (by decide)]
 decide
theorem ec_sha : shaF 2 ec_M = [110, 25, 201, 45, 206, 143, 18, 10, 44, 226, 220, 212, 218, 152, 31, 10, 56, 121, 153, 122] := by decide +kernel
theorem ec_msg : shaMsg ([99, 111, 109, 109, 105, 116, 32, 57, 50, 0] ++ bytesOf (bk ec_b)) 102 = ec_M := by decide +kernel
theorem ec_id : idK 1 ec_b = ec_d := by
 unfold idK
 rw [show (bk ec_b).size = 92 by decide +kernel, ec_head, shaF_is (xs := [99, 111, 109, 109, 105, 116, 32, 57, 50, 0] ++ bytesOf (bk ec_b)) ec_msg (by decide +kernel) ec_sha]
 decide +kernel
theorem ec_ne : et_d ≠ ec_d := by decide
end Go.Proofs.YtihanglnjghcfaaGreatDoor
namespace Go.Proofs.YtihanglnjghcfaaGreatDoor
open Go.RowKit Go.Maps
set_option linter.unusedVariables false
set_option linter.unusedSimpArgs false

def idxK (R : List Kn) (d : Gid) : Option Nat := R.findIdx? fun o => o.id == d
/-- What is counted: one more at the place of the one asked. -/
def stepA (R : List Kn) (L : List Int) (d : Gid) : List Int := match idxK R d with | none => L | some i => L.set i (IntKind.i64.wrap (L.getD i 0 + 1))
def askF (R : List Kn) (qs : List Gid) : List Int := qs.foldl (stepA R) (List.replicate (R.length + 1) 0)
/-- How the counting function's memory lies. -/
structure OnceSt (r bR bA ba oa : Nat) (R : List Kn) (F : Nat → Prop) (qs : List Gid) (w : World) : Prop where
 low : ∀ k, F k → k < w.heap.size
 rep : RepAt w (fun k => F k ∧ k ≠ ba) r R
 fR : F bR
 fA : F bA
 fa : F ba
 cR : w.cell? ⟨bR, 0, none⟩ = some (.pointer (some ⟨r, 0, none⟩))
 cA : w.cell? ⟨bA, 0, none⟩ = some (.slice (some ⟨ba, oa, none⟩) (R.length + 1) (R.length + 1))
 row : OwnS w 0 3 1 (.slice (some ⟨ba, oa, none⟩) (R.length + 1) (R.length + 1)) (R.length + 1) ((askF R qs).map (Value.int .i64))
 nR : bR ≠ ba
 nA : bA ≠ ba
theorem OnceSt.keep {r bR bA ba oa : Nat} {R : List Kn} {F S : Nat → Prop} {qs : List Gid} {w w' : World} (h : OnceSt r bR bA ba oa R F qs w) (hc : Chg S w w') (hS : ∀ k, F k → ¬ S k) : OnceSt r bR bA ba oa R F qs w' where
 low := fun k hk => Nat.lt_of_lt_of_le (h.low k hk) hc.size
 rep := h.rep.keep hc (fun k hk _ => hS k hk.1) (fun k hk _ => hk)
 fR := h.fR
 fA := h.fA
 fa := h.fa
 cR := (World.cell?_of_block (hc.block bR (block_lt h.cR) (hS bR h.fR))).trans h.cR
 cA := (World.cell?_of_block (hc.block bA (block_lt h.cA) (hS bA h.fA))).trans h.cA
 row := h.row.chg hc fun k hk => hS k (by injection hk with hk; rw [← hk]; exact h.fa)
 nR := h.nR
 nA := h.nA
end Go.Proofs.YtihanglnjghcfaaGreatDoor
