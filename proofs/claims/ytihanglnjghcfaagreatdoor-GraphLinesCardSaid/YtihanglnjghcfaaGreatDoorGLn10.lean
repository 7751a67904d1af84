/- The program's walk: an item laid behind. -/
import Derived.Test.YtihanglnjghcfaaGreatDoorGLn9
import Derived.StillTailTactics
import Derived.Test.YtihanglnjghcfaaGreatDoorGLn3
import Derived.Shelf.LaysM
import Derived.Ground.SlgmProg
import Derived.Shelf.SortM.Plain
import Derived.Shelf.SortM.SortNone
import Derived.Test.YtihanglnjghcfaaGreatDoorProg
namespace Go.Proofs.YtihanglnjghcfaaGreatDoor
open Go.RowKit Go.Maps
set_option linter.unusedVariables false
set_option linter.unusedSimpArgs false

def AddPost (K : Nat → Prop) (g : Nat) (get : Value) (easy : Bool) (l : List Git) (k : Glk) (w : World) (e : Ending) (w' : World) : Prop :=
 e = .returned (.bool (addG l k).2) ∧ WalkAt w' K g get easy (addG l k).1 ∧ Chg K w w'
theorem atG_lt {l : List Git} {d : Gid} {i : Nat} (h : atG l d = some i) : ∃ x, l[i]? = some x ∧ x.id = d := by
 unfold atG at h
 obtain ⟨hi, h1, _⟩ := List.findIdx?_eq_some_iff_getElem.1 h
 exact ⟨l[i], List.getElem?_eq_getElem hi, by simpa using h1⟩
theorem atG_snoc {l : List Git} {x : Git} (hn : atG l x.id = none) (d : Gid) : atG (l ++ [x]) d = if d = x.id then some l.length else atG l d := by
 unfold atG at *
 rw [List.findIdx?_append]
 by_cases e : d = x.id
 · subst e
   rw [hn, if_pos rfl]
   simp
 · rw [if_neg e]
   have : (x.id == d) = false := by rw [beq_eq_false_iff_ne]; exact fun h => e h.symm
   simp [List.findIdx?_cons, this]
theorem atG_modify {l : List Git} {i : Nat} {k : Int} (d : Gid) : atG (l.modify i fun y => ⟨y.id, k⟩) d = atG l d := by
 have h := modify_ids l i k
 have key : ∀ m : List Git, atG m d = (m.map (·.id)).findIdx? (· == d) := fun m => by
  unfold atG
  rw [List.findIdx?_map]
  rfl
 rw [key, key, h]
theorem flat_set {α : Type} (z : Nat) (g : α → List Value) (hg : ∀ x, (g x).length = z) : ∀ (L : List α) (i j : Nat) (f : α → α) (x : α) (u : Value), L[i]? = some x → g (f x) = (g x).set j u → j < z → (L.modify i f).flatMap g = (L.flatMap g).set (i * z + j) u
 | [], i, j, f, x, u, h, _, _ => by simp at h
 | y :: L, 0, j, f, x, u, h, h2, hj => by
  simp at h; subst h
  rw [List.modify_zero_cons, List.flatMap_cons, List.flatMap_cons, h2, Nat.zero_mul, Nat.zero_add, List.set_append_left _ _ (by rw [hg]; exact hj)]
 | y :: L, i + 1, j, f, x, u, h, h2, hj => by
  rw [List.modify_succ_cons, List.flatMap_cons, flat_set z g hg L i j f x u (by simpa using h) h2 hj, List.flatMap_cons, Nat.succ_mul, List.set_append_right _ _ (by rw [hg]; omega), hg, show i * z + z + j - z = i * z + j by omega]
/-- A walk's map and its row are not the walk's own block. -/
theorem Cel.ne_map {w : World} {g m n N : Nat} {t : TypeId} {f : Nat → Value} {q : List UInt8 → Option Nat} (h : Cel w g t N f) (hm : MapI w m n q) : g ≠ m := by
 rintro rfl
 obtain ⟨cs, h1, _⟩ := h
 obtain ⟨D, ⟨es, clock, hb, _⟩, _⟩ := hm
 rw [h1] at hb
 cases hb
theorem OwnS.ne_map {w : World} {base size n m n' : Nat} {e : TypeId} {v : Value} {xs : List Value} {q : List UInt8 → Option Nat} (h : OwnS w base e size v n xs) (hm : MapI w m n' q) : v.ownBlock ≠ some m := by
 rcases h.2 with ⟨rfl, _⟩ | ⟨g', off, cap, cur, rfl, _, ⟨fr, hh, _⟩, _⟩
 · simp [Value.ownBlock]
 · intro he
   simp [Value.ownBlock] at he
   subst he
   obtain ⟨D, ⟨es, clock, hb, _⟩, _⟩ := hm
   rw [hh] at hb
   cases hb
/-- An item's kind set anew. -/
theorem setKind {w : World} {K : Nat → Prop} {g b o c m n i : Nat} {get : Value} {easy : Bool} {l : List Git} {x : Git} (hg : K g)
 (hce : Cel w g 84 4 (walF get (.slice (some ⟨b, o, none⟩) l.length c) (.map (some m)) (.bool easy))) (how : OwnS w 0 101 2 (.slice (some ⟨b, o, none⟩) l.length c) l.length (l.flatMap itV))
 (hoK : ∀ k, Value.ownBlock (.slice (some ⟨b, o, none⟩) l.length c) = some k → K k) (hmp : MapI w m n (atG l)) (hn : n ≤ l.length) (hmK : K m) (hx : l[i]? = some x) (u : Int) :
 WalkAt (w.setCell ⟨b, o + i * 2 + 1, none⟩ (.int .i64 u)) K g get easy (l.modify i fun y => ⟨y.id, u⟩) ∧ Chg K w (w.setCell ⟨b, o + i * 2 + 1, none⟩ (.int .i64 u)) := by
 have hKb : K b := hoK b rfl
 have hgb : g ≠ b := fun e => how.ne_cel hce (by decide) (by rw [e]; rfl)
 have hmb : m ≠ b := fun e => how.ne_map hmp (by rw [e]; rfl)
 have hil : i < l.length := (List.getElem?_eq_some_iff.1 hx).1
 have e1 : (l.modify i fun y => (⟨y.id, u⟩ : Git)).length = l.length := by simp
 have e2 : (l.modify i fun y => (⟨y.id, u⟩ : Git)).flatMap itV = (l.flatMap itV).set (i * 2 + 1) (.int .i64 u) := flat_set 2 itV itV_len l i 1 _ x _ hx rfl (by decide)
 have hfl := flat_len 2 itV itV_len l
 have hset := how.setAt (j := i * 2 + 1) (by rw [hfl]; omega) (.int .i64 u)
 rw [← Nat.add_assoc] at hset
 refine ⟨⟨hg, some ⟨b, o, none⟩, c, m, n, ?_, ?_, ?_, ?_, ?_, hmK⟩, (Chg.refl K w).setCell (.inl hKb) _⟩
 · rw [e1]; exact hce.setFar hgb _
 · rw [e1, e2]; exact hset
 · rw [e1]; exact hoK
 · have e3 : atG (l.modify i fun y => (⟨y.id, u⟩ : Git)) = atG l := funext fun d => atG_modify d
   rw [e3]
   exact hmp.setCell hmb _
 · rw [e1]; exact hn
set_option maxRecDepth 100000 in
set_option maxHeartbeats 2000000 in
theorem add_any (K : Nat → Prop) (g : Nat) (get : Value) (easy : Bool) (l : List Git) (k : Glk) (w : World) (h : WalkAt w K g get easy l) (hK : ∀ k, w.heap.size ≤ k → K k) (hl : l.length ≤ 1073741824) (hs : k.id.length ≤ 1099511627776) :
 Calls Tryz.prog 42 #[.pointer (some ⟨g, 0, none⟩), .string (bk k.id), .int .i64 k.kd] w (AddPost K g get easy l k w) := by
 obtain ⟨i0, hi, hz0, hz1, hz2⟩ := info_parts info_it
 have hs2 : (bk k.id).size ≤ 9223372036854775807 := by rw [bk_size]; omega
 have HW0 := Lib.hid h
 obtain ⟨hg, A, c, m, n, hce, how, hoK, hmp, hnl, hmK⟩ := h
 have hgb := hce.blk
 have hne := hce.ne_map hmp
 have hnr : Value.ownBlock (.slice A l.length c) ≠ some g := how.ne_cel hce (by decide)
 have hnm : Value.ownBlock (.slice A l.length c) ≠ some m := how.ne_map hmp
 have k1 : w.cell? ⟨g, 1, none⟩ = some (.slice A l.length c) := hce.cell 1 (by decide)
 have k2 : w.cell? ⟨g, 2, none⟩ = some (.map (some m)) := hce.cell 2 (by decide)
 have hlk := hmp.look (bk k.id) hs2
 rw [bk_list] at hlk
 have HCE := Lib.hid hce
 have HOW := Lib.hid how
 have HMP := Lib.hid hmp
 have HK := Lib.hid hK
 have HN := Lib.hid (And.intro hgb (And.intro hne (And.intro hnr (And.intro hnm (And.intro hnl hl)))))
 have HKK := Lib.hid (And.intro hg (And.intro hoK hmK))
 obtain ⟨kid, kkd⟩ := k
 dsimp only at *
 have hll := hl
 clear hce how hmp hK hgb hne hnr hnm hnl hg hoK hmK hs hl
 cases hat : atG l kid with
 | none =>
  rw [hat] at hlk
  unfold optI at hlk
  have HRES : Hid (addG l ⟨kid, kkd⟩ = (l ++ [⟨kid, kkd⟩], true)) := Lib.hid (by unfold addG; rw [hat])
  obtain ⟨w1, hrun, hm1, hg1⟩ := (HMP.out.same (w' := w.drew) rfl).put (by have := HN.out.2.2.2.2.1; omega) (bk kid) hs2 l.length (by omega)
  rw [bk_list] at hm1
  have hc1 : Chg (fun x => x = m) w w1 := (Chg.refl _ w).drew.trans (Chg.of_grown (S := fun x => x = m) hg1 (fun x hx => by injection hx with hx; exact hx.symm)) (fun _ _ h => h)
  have hce1 := HCE.out.chg hc1 HN.out.2.1
  have how1 := HOW.out.chg hc1 (fun x hx e => HN.out.2.2.2.1 (by rw [hx, e]))
  have HAT := Lib.hid hat
  have j1 : w1.cell? ⟨g, 1, none⟩ = some (.slice A l.length c) := hce1.cell 1 (by decide)
  have HC1 := Lib.hid hc1
  have HCE1 := Lib.hid hce1
  have HOW1 := Lib.hid how1
  have HM1 := Lib.hid hm1
  have HS1 := Lib.hid (Src.lk (P := Tryz.prog) w1 ⟨bk kid, kkd⟩ 101)
  have HOA := Lib.hid (how1.alloc (.cells #[.string (bk kid), .int .i64 kkd] 101))
  have hm9 : l.length + 1 ≤ maxLen := by unfold maxLen; omega
  have hb9 : (l.length + 1) * 24 ≤ 140737488355328 := by omega
  clear hc1 hce1 how1 hm1 hg1 hat HMP
  go_enter Tryz.func42, Tryz.ntmps42
  go_wp2
  go_still_tail 10, (by kernel_rfl)
  repeat still_step
  have HW1 : Hid (w.heap.size ≤ w1.heap.size) := Lib.hid HC1.out.size
  go_wp2_with (at_builtin; go_loud (refine wpList_append_S rfl (.tmp 34) (.tmp 38) 81 81 rfl i0 (.agg #[.string ⟨#[]⟩, .int .i64 0]) 24 (.slice 101) Tryz.underlying81 Tryz.underlying81 (fun _ h => by cases h) hi hz0 hz1 hz2 rfl rfl rfl HOA.out HS1.out hm9 hb9 (Nat.zero_le _) ?_; intro A8 c8 w8; generalize hnn : l.length + 1 = nn at *; intro ho8 hg8 hw8; have HCE8 := Lib.hid ((HCE1.out.alloc (.cells #[.string (bk kid), .int .i64 kkd] 101)).grown hg8 HN.out.2.2.1); have q8 := HCE8.out.cell 1 (by decide); have z8 := HCE8.out.frozen 1; have HO8 := Lib.hid ho8; have HG8 := Lib.hid hg8; have HH8 := Lib.hid hw8; have HNN := Lib.hid hnn; clear ho8 hg8 hw8 hnn))
  go_ret
  unfold AddPost
  have e1 : (l ++ [(⟨kid, kkd⟩ : Git)]).length = nn := by rw [List.length_append]; exact HNN.out
  have hne8 : Value.ownBlock (.slice A8 nn c8) ≠ some g := HO8.out.ne_cel HCE8.out (by decide)
  have HMA : MapI (w1.alloc (.cells #[.string (bk kid), .int .i64 kkd] 101)) m (n + 1) _ := HM1.out.same (heap_alloc_old w1 _ HM1.out.lt)
  have HM8 := (HMA.same (w' := w8) (HG8.out.block m HMA.lt (fun e => HN.out.2.2.2.1 e.symm))).setCell (a := ⟨g, 1, none⟩) (fun e => HN.out.2.1 e.symm) (.slice A8 nn c8)
  refine ⟨by rw [HRES.out]; rfl, ?_, ?_⟩
  · rw [HRES.out]
    refine ⟨HKK.out.1, A8, c8, m, n + 1, ?_, ?_, ?_, ?_, ?_, HKK.out.2.2⟩
    · rw [e1]
      refine (HCE8.out.set 1 _).congr fun j hj => ?_
      unfold walF
      by_cases h1 : j = 1
      · subst h1; rfl
      · rw [if_neg h1]; by_cases h0 : j = 0
        · rw [if_pos h0, if_pos h0]
        · rw [if_neg h0, if_neg h0, if_neg h1, if_neg h1]
    · rw [e1, List.flatMap_append]
      exact HO8.out.setFar hne8 _
    · rw [e1]
      intro x hx
      rcases HH8.out with h | h
      · exact HKK.out.2.1 x (h.symm.trans hx)
      · have : x = (w1.alloc (.cells #[.string (bk kid), .int .i64 kkd] 101)).heap.size := by injection (hx.symm.trans h)
        refine HK.out x ?_
        have h2 := HW1.out
        rw [this]
        simp
        omega
    · have e2 : atG (l ++ [(⟨kid, kkd⟩ : Git)]) = fun t => if t = kid then some l.length else atG l t := funext fun t => atG_snoc (x := ⟨kid, kkd⟩) HAT.out t
      rw [e2]
      exact HM8
    · rw [e1]; have := HN.out.2.2.2.2.1; have := HNN.out; omega
  · refine Chg.setCell ?_ (.inl HKK.out.1) _
    refine ((HC1.out.alloc _).mono (S' := K) fun x _ hx => by rw [hx]; exact HKK.out.2.2).trans (Chg.of_grown (S := K) HG8.out fun x hx => HKK.out.2.1 x hx) (fun _ _ h => h)
 | some i =>
  rw [hat] at hlk
  unfold optI at hlk
  obtain ⟨x, hx, hxid⟩ := atG_lt hat
  have hil : i < l.length := (List.getElem?_eq_some_iff.1 hx).1
  obtain ⟨b, o, hA, _, hbl, hcl⟩ := OwnS.flat itV_len (by decide) HOW.out hx
  subst hA
  have f0 : w.cell? ⟨b, o + i * 2, none⟩ = some (.string (bk x.id)) := hcl 0 (by decide)
  have f1 : w.cell? ⟨b, o + i * 2 + 1, none⟩ = some (.int .i64 x.kd) := hcl 1 (by decide)
  have hfl := flat_len 2 itV itV_len l
  have hfr := HOW.out.free (j := i * 2 + 1) (by rw [hfl]; omega)
  rw [← Nat.add_assoc] at hfr
  have fz := hfr.1
  have hll2 : ¬ (l.length : Int) ≤ i := by omega
  have hi0 : (0 : Int) ≤ i := by omega
  have hlc : (i : Int) < l.length := by omega
  have HIL := Lib.hid hil
  have HX := Lib.hid hx
  have HSETK := Lib.hid (fun (u : Int) => setKind (b := b) (o := o) HKK.out.1 HCE.out HOW.out HKK.out.2.1 HMP.out HN.out.2.2.2.2.1 HKK.out.2.2 hx u)
  have HAT := Lib.hid hat
  have HBL := Lib.hid hbl
  clear hcl hat hx hxid hfl hfr hbl hil hll
  by_cases h0 : x.kd = 0
  · have d1 : (x.kd == 0) = true := by rw [beq_iff_eq]; exact h0
    have HRES : Hid (addG l ⟨kid, kkd⟩ = (l.modify i fun y => ⟨y.id, kkd⟩, true)) := Lib.hid (by unfold addG; rw [HAT.out]; simp only [HX.out, Option.map_some, Option.getD_some, h0]; rfl)
    have u1 : (w.setCell ⟨b, o + i * 2 + 1, none⟩ (.int .i64 kkd)).cell? ⟨b, o + i * 2 + 1, none⟩ = some (.int .i64 kkd) := World.cell?_setCell_same' _ _ _ (by rw [f1]; rfl)
    clear h0
    have HSET : Hid (WalkAt (w.setCell ⟨b, o + i * 2 + 1, none⟩ (.int .i64 kkd)) K g get easy (l.modify i fun y => ⟨y.id, kkd⟩) ∧ Chg K w (w.setCell ⟨b, o + i * 2 + 1, none⟩ (.int .i64 kkd))) := HSETK.out kkd |> Lib.hid
    by_cases hk0 : kkd = 0
    · have d2 : (kkd == 0) = true := by rw [beq_iff_eq]; exact hk0
      clear hk0
      go_enter Tryz.func42, Tryz.ntmps42
      go_wp2
      go_ret
      unfold AddPost
      rw [HRES.out]
      exact ⟨rfl, HSET.out⟩
    · have d2 : (kkd == 0) = false := by rw [beq_eq_false_iff_ne]; exact hk0
      have hgb : g ≠ b := fun e => HN.out.2.2.1 (by rw [e]; rfl)
      have u2 : (w.setCell ⟨b, o + i * 2 + 1, none⟩ (.int .i64 kkd)).cell? ⟨g, 1, none⟩ = some (.slice (some ⟨b, o, none⟩) l.length c) := (HCE.out.setFar hgb _).cell 1 (by decide)
      have d3 : (kkd == kkd) = true := by rw [beq_iff_eq]
      clear hk0
      go_enter Tryz.func42, Tryz.ntmps42
      go_wp2
      go_ret
      unfold AddPost
      rw [HRES.out]
      exact ⟨by first | rfl | simp, HSET.out⟩
  · have d1 : (x.kd == 0) = false := by rw [beq_eq_false_iff_ne]; exact h0
    have HRES : Hid (addG l ⟨kid, kkd⟩ = (l, decide (kkd = 0) || decide (x.kd = kkd))) := Lib.hid (by unfold addG; rw [HAT.out]; simp only [HX.out, Option.map_some, Option.getD_some]; rw [if_neg h0])
    have HST : Hid (WalkAt w K g get easy l ∧ Chg K w w) := Lib.hid ⟨HW0.out, Chg.refl _ _⟩
    clear h0
    by_cases hk0 : kkd = 0
    · have d2 : (kkd == 0) = true := by rw [beq_iff_eq]; exact hk0
      have HR2 : Hid ((decide (kkd = 0) || decide (x.kd = kkd)) = true) := Lib.hid (by simp [hk0])
      clear hk0
      go_enter Tryz.func42, Tryz.ntmps42
      go_wp2
      go_ret
      unfold AddPost
      rw [HRES.out, HR2.out]
      exact ⟨rfl, HST.out⟩
    · have d2 : (kkd == 0) = false := by rw [beq_eq_false_iff_ne]; exact hk0
      by_cases hk1 : x.kd = kkd
      · have d3 : (x.kd == kkd) = true := by rw [beq_iff_eq]; exact hk1
        have HR2 : Hid ((decide (kkd = 0) || decide (x.kd = kkd)) = true) := Lib.hid (by simp [hk1])
        clear hk0 hk1
        go_enter Tryz.func42, Tryz.ntmps42
        go_wp2
        go_ret
        unfold AddPost
        rw [HRES.out, HR2.out]
        exact ⟨rfl, HST.out⟩
      · have d3 : (x.kd == kkd) = false := by rw [beq_eq_false_iff_ne]; exact hk1
        have HR2 : Hid ((decide (kkd = 0) || decide (x.kd = kkd)) = false) := Lib.hid (by simp [hk0, hk1])
        clear hk0 hk1
        go_enter Tryz.func42, Tryz.ntmps42
        go_wp2
        go_ret
        unfold AddPost
        rw [HRES.out, HR2.out]
        exact ⟨rfl, HST.out⟩
end Go.Proofs.YtihanglnjghcfaaGreatDoor
namespace Go.Proofs.YtihanglnjghcfaaGreatDoor
open Go.RowKit Go.Maps
set_option linter.unusedVariables false
set_option linter.unusedSimpArgs false

/-- What is told: the kind and the bytes. -/
def TellPost (o : Option Kn) (e : Ending) (w' : World) : Prop :=
 match o with
 | none => e = .returned (.tuple #[.int .i64 0, .slice none 0 0, .bool false])
 | some x => ∃ A c, e = .returned (.tuple #[.int .i64 x.kd, .slice A x.b.length c, .bool true]) ∧ Ints .u8 w' A (bytesOf (bk x.b)) ∧ x.b.length ≤ c ∧ c ≤ 9223372036854775807 ∧ (A = none → x.b.length = 0)
/-- .. and the bytes are new memory. -/
def TellF (n0 : Nat) (o : Option Kn) (e : Ending) (w' : World) : Prop :=
 match o with
 | none => e = .returned (.tuple #[.int .i64 0, .slice none 0 0, .bool false])
 | some x => ∃ A c, e = .returned (.tuple #[.int .i64 x.kd, .slice A x.b.length c, .bool true]) ∧ Ints .u8 w' A (bytesOf (bk x.b)) ∧ x.b.length ≤ c ∧ c ≤ 9223372036854775807 ∧ (A = none → x.b.length = 0) ∧ ∀ b o, A = some ⟨b, o, none⟩ → n0 ≤ b
theorem TellF.tell {n0 : Nat} {o : Option Kn} {e : Ending} {w' : World} (h : TellF n0 o e w') : TellPost o e w' := by
 cases o with
 | none => exact h
 | some x =>
  obtain ⟨A, c, h1, h2, h3, h4, h5, _⟩ := h
  exact ⟨A, c, h1, h2, h3, h4, h5⟩
/-- A function that tells objects: St F qs says how its memory lies in the blocks F when qs have been asked. -/
structure Getter (f : FuncId) (c1 c2 : Value) (G : Gid → Option Kn) (St : (Nat → Prop) → List Gid → World → Prop) : Prop where
 ent : ∀ (W : World) (args : Array Value), (callFunc f args).run Tryz.prog W = .ok (.enter f args) W
 low : ∀ {F : Nat → Prop} {qs : List Gid} {w : World}, St F qs w → ∀ k, F k → k < w.heap.size
 keep : ∀ {F S : Nat → Prop} {qs : List Gid} {w w' : World}, St F qs w → Chg S w w' → (∀ k, F k → ¬ S k) → St F qs w'
 call : ∀ {F : Nat → Prop} {qs : List Gid} {w : World} (d : Gid), St F qs w → Calls Tryz.prog f #[.string (bk d), c1, c2] w fun e w' =>
  ∃ F', St F' (qs ++ [d]) w' ∧ Chg F w w' ∧ (∀ k, F' k → F k ∨ w.heap.size ≤ k) ∧ TellPost (G d) e w'
/-- .. so many times at most. -/
structure GetterN (N : Nat) (f : FuncId) (c1 c2 : Value) (G : Gid → Option Kn) (St : (Nat → Prop) → List Gid → World → Prop) : Prop where
 ent : ∀ (W : World) (args : Array Value), (callFunc f args).run Tryz.prog W = .ok (.enter f args) W
 low : ∀ {F : Nat → Prop} {qs : List Gid} {w : World}, St F qs w → ∀ k, F k → k < w.heap.size
 keep : ∀ {F S : Nat → Prop} {qs : List Gid} {w w' : World}, St F qs w → Chg S w w' → (∀ k, F k → ¬ S k) → St F qs w'
 call : ∀ {F : Nat → Prop} {qs : List Gid} {w : World} (d : Gid), qs.length < N → St F qs w → Calls Tryz.prog f #[.string (bk d), c1, c2] w fun e w' =>
  ∃ F', St F' (qs ++ [d]) w' ∧ Chg F w w' ∧ (∀ k, F' k → F k ∨ w.heap.size ≤ k) ∧ TellPost (G d) e w'
theorem Getter.toN {f : FuncId} {c1 c2 : Value} {G : Gid → Option Kn} {St : (Nat → Prop) → List Gid → World → Prop} (hg : Getter f c1 c2 G St) (N : Nat) : GetterN N f c1 c2 G St :=
 ⟨hg.ent, hg.low, hg.keep, fun d _ h => hg.call d h⟩
/-- The law's Get: what a repository has, but one. -/
def withoutK (R : List Kn) (gone d : Gid) : Option Kn := if d = gone then none else getK R d
def GetSt (r b1 b2 : Nat) (R : List Kn) (gone : Gid) (F : Nat → Prop) (qs : List Gid) (w : World) : Prop :=
 (∀ k, F k → k < w.heap.size) ∧ RepAt w F r R ∧ F b1 ∧ F b2 ∧ w.cell? ⟨b1, 0, none⟩ = some (.pointer (some ⟨r, 0, none⟩)) ∧ w.cell? ⟨b2, 0, none⟩ = some (.string (bk gone))
/-- What holds amid the telling: the bytes made. -/
def ITl (w0 : World) (n : Nat) (L : List Int) : List Value → World → Prop
 | [], w => Below w0.heap.size w0 w
 | [v], w => Below w0.heap.size w0 w ∧ ∃ A c, v = .slice A n c ∧ Ints .u8 w A L ∧ n ≤ c ∧ c ≤ 9223372036854775807 ∧ (A = none → n = 0) ∧ ∀ b o, A = some ⟨b, o, none⟩ → w0.heap.size ≤ b
 | _ :: v :: _, w => Below w0.heap.size w0 w ∧ ∃ A c, v = .slice A n c ∧ Ints .u8 w A L ∧ n ≤ c ∧ c ≤ 9223372036854775807 ∧ (A = none → n = 0) ∧ ∀ b o, A = some ⟨b, o, none⟩ → w0.heap.size ≤ b
theorem iTl_low {w0 w : World} {n : Nat} {L : List Int} {vs : List Value} (h : ITl w0 n L vs w) : Below w0.heap.size w0 w := by
 match vs, h with
 | [], h => exact h
 | [_], h => exact h.1
 | _ :: _ :: _, h => exact h.1
theorem OwnS.nilLen {w : World} {base n c : Nat} {e : TypeId} {size : Nat} {A : Option Addr} {xs : List Value} (h : OwnS w base e size (.slice A n c) n xs) : A = none → n = 0 := fun hA => by
 subst hA
 rcases h.2 with ⟨_, hx⟩ | ⟨g, off, cap, cur, hv, _⟩
 · exact hx
 · injection hv with h1; cases h1
set_option maxRecDepth 100000 in
set_option maxHeartbeats 2000000 in
theorem get1F_any (w : World) (K : Nat → Prop) (r b1 b2 : Nat) (R : List Kn) (gone d : Gid) (h : RepAt w K r R) (hl : R.length ≤ 1073741824) (hz : ∀ x ∈ R, x.b.length ≤ 140737488351300)
 (k1 : w.cell? ⟨b1, 0, none⟩ = some (.pointer (some ⟨r, 0, none⟩))) (k2 : w.cell? ⟨b2, 0, none⟩ = some (.string (bk gone))) :
 Calls Tryz.prog 38 #[.string (bk d), .pointer (some ⟨b1, 0, none⟩), .pointer (some ⟨b2, 0, none⟩)] w fun e w' => Below w.heap.size w w' ∧ TellF w.heap.size (withoutK R gone d) e w' := by
 have HG := Lib.hid (rget_any w K r R d h hl)
 have l2 : b2 < w.heap.size := by
  rcases Nat.lt_or_ge b2 w.heap.size with h' | h'
  · exact h'
  · simp [World.cell?, Array.getElem?_eq_none h'] at k2
 have HL2 := Lib.hid l2
 have HZ : Hid (∀ x, getK R d = some x → x.b.length ≤ 140737488351300) := Lib.hid (fun x hx => hz x (List.mem_of_find?_eq_some hx))
 clear h hl l2 hz
 go_enter Tryz.func38, Tryz.ntmps38
 go_wp2_with fail
 refine HG.out.mono ?_
 rintro e w1 ⟨rfl, hb1⟩
 have q2 := (hb1.cell (p := ⟨b2, 0, none⟩) HL2.out).trans k2
 have HB1 := Lib.hid hb1
 clear hb1 k1 k2
 cases hgk : getK R d with
 | none =>
  have HRR : Hid (withoutK R gone d = none) := Lib.hid (by unfold withoutK; rw [hgk]; split <;> rfl)
  clear hgk
  unfold getV zeroK
  go_wp2
  go_ret3
  exact ⟨(HB1.out.trans (((Below.refl _ _).alloc (Nat.le_refl _) _).mono HB1.out.size)), by rw [HRR.out]; rfl⟩
 | some x =>
  have hx := Lib.hid hgk
  unfold getV knA
  by_cases hd : d = gone
  · have d1 : ((bk d).toList == (bk gone).toList) = true := by rw [hd]; simp
    have HRR : Hid (withoutK R gone d = none) := Lib.hid (by unfold withoutK; rw [if_pos hd])
    have r2 : (w1.alloc (.cells #[.int .i64 x.kd, .string (bk x.b), .string (bk x.id)] 27)).cell? ⟨b2, 0, none⟩ = some (.string (bk gone)) := by rw [World.cell?_of_block (heap_alloc_old w1 _ (Nat.lt_of_lt_of_le HL2.out HB1.out.size))]; exact q2
    clear hgk hd
    go_wp2
    go_ret3
    exact ⟨(HB1.out.trans (((Below.refl _ _).alloc (Nat.le_refl _) _).mono HB1.out.size)), by rw [HRR.out]; rfl⟩
  · have d1 : ((bk d).toList == (bk gone).toList) = false := by rw [Lib.toList_data, Lib.toList_data, bk_list, bk_list, beq_eq_false_iff_ne]; exact hd
    have HRR : Hid (withoutK R gone d = some x) := Lib.hid (by unfold withoutK; rw [if_neg hd, hgk])
    have r2 : (w1.alloc (.cells #[.int .i64 x.kd, .string (bk x.b), .string (bk x.id)] 27)).cell? ⟨b2, 0, none⟩ = some (.string (bk gone)) := by rw [World.cell?_of_block (heap_alloc_old w1 _ (Nat.lt_of_lt_of_le HL2.out HB1.out.size))]; exact q2
    have hz9 := HZ.out x hgk
    have hbz : (bk x.b).size ≤ 140737488351300 := by rw [bk_size]; exact hz9
    have hce : Cel (w1.alloc (.cells #[.int .i64 x.kd, .string (bk x.b), .string (bk x.id)] 27)) w1.heap.size 27 3 (fun j => (knA x).getD j undef) := Cel.new w1 _ (knA x) _ (fun i hi => by simp [Array.getD_eq_getD_getElem?, hi])
    have HCE := Lib.hid hce
    have HBA := Lib.hid (HB1.out.trans (((Below.refl _ _).alloc (Nat.le_refl _) (.cells #[.int .i64 x.kd, .string (bk x.b), .string (bk x.id)] 27)).mono HB1.out.size))
    have k0 := hce.cell 0 (by decide)
    have k3 := hce.cell 1 (by decide)
    change (w1.alloc (.cells #[.int .i64 x.kd, .string (bk x.b), .string (bk x.id)] 27)).cell? ⟨w1.heap.size, 0, none⟩ = some (.int .i64 x.kd) at k0
    change (w1.alloc (.cells #[.int .i64 x.kd, .string (bk x.b), .string (bk x.id)] 27)).cell? ⟨w1.heap.size, 1, none⟩ = some (.string (bk x.b)) at k3
    clear hgk hd hz9 hce
    go_upto_region 4 with (fail)
    generalize w1.alloc (.cells #[.int .i64 x.kd, .string (bk x.b), .string (bk x.id)] 27) = w2 at *
    generalize w1.heap.size = g2 at *
    have HZB := Lib.hid hbz
    have HW2 := Lib.hid (show ITl w2 x.b.length (bytesOf (bk x.b)) [] w2.drew from (Below.refl _ _).drew)
    refine wp_region_ph (by kernel_rfl) [4, 6] [.span 0 1, .span 0 1, .span 0 0, .span 0 0, .phase 0, .span 0 1, .phase 1, .span 2 2] [fun z9 => z9 = .pointer (some ⟨g2, 0, none⟩), fun z9 => z9 = .int .i64 x.kd, fun z9 => z9 = .pointer (some ⟨g2, 1, none⟩), fun z9 => z9 = .string (bk x.b), fun _ => True, fun z9 => z9 = .int .i64 x.kd, fun _ => True, fun z9 => z9 = .bool true] ((ITl w2 x.b.length (bytesOf (bk x.b)))) (by kernel_rfl) (by kernel_rfl) (by kernel_rfl) (by kernel_rfl) (by kernel_rfl) (by kernel_rfl) rfl rfl (HW2.out) ?steps ?done
    case steps =>
     refine ⟨?_, ?_, ?_, ?_, ?_, ?_, ?_, ?_, trivial⟩
     · intro us au w1 k0 hlo hhi ha hd hst hI
       have q7 := slot_far (t := 7) (v := .pointer (some ⟨g2, 0, none⟩)) ha (by kernel_rfl) (by kernel_rfl)
       have p7 := slot_norm q7
       clear ha hd hst
       exact StepI.pure (v := .pointer (some ⟨g2, 0, none⟩)) rfl rfl (by go_simp) ⟨rfl, hI⟩
     · intro us au w1 k1 hlo hhi ha hd hst hI
       have e0 := hd 0 _ (by kernel_rfl) rfl
       have q22 := slot_at (t := 22) 0 ha (by kernel_rfl) (by kernel_rfl) (by kernel_rfl) e0
       have p22 := slot_norm q22
       clear ha hd hst
       have kk : w1.cell? ⟨g2, 0, none⟩ = some (.int .i64 x.kd) := (HCE.out.below (iTl_low hI) HCE.out.blk).cell 0 (by decide)
       exact StepI.pure (v := .int .i64 x.kd) rfl rfl (by go_simp) ⟨rfl, hI⟩
     · intro us au w1 k2 hlo hhi ha hd hst hI
       obtain rfl : k2 = 0 := by omega
       have q7 := slot_far (t := 7) (v := .pointer (some ⟨g2, 0, none⟩)) ha (by kernel_rfl) (by kernel_rfl)
       have p7 := slot_norm q7
       clear ha hd hst
       exact StepI.pure (v := .pointer (some ⟨g2, 1, none⟩)) rfl rfl (by go_simp) ⟨rfl, hI⟩
     · intro us au w1 k3 hlo hhi ha hd hst hI
       obtain rfl : k3 = 0 := by omega
       have e2 := hd 2 _ (by kernel_rfl) rfl
       have q24 := slot_at (t := 24) 2 ha (by kernel_rfl) (by kernel_rfl) (by kernel_rfl) e2
       have p24 := slot_norm q24
       clear ha hd hst
       have kk : w1.cell? ⟨g2, 1, none⟩ = some (.string (bk x.b)) := (HCE.out.below (iTl_low hI) HCE.out.blk).cell 1 (by decide)
       exact StepI.pure (v := .string (bk x.b)) rfl rfl (by go_simp) ⟨rfl, hI⟩
     · intro us au w1 ha hd hst hI
       have e3 := hd 3 _ (by kernel_rfl) rfl
       have q25 := slot_at (t := 25) 3 ha (by kernel_rfl) (by kernel_rfl) (by kernel_rfl) e3
       have p25 := slot_norm q25
       clear ha hd hst
       obtain ⟨A, cap, w5, hr, ho, hge, hcm, hb5⟩ := run_convO w1 (bk x.b) HZB.out
       rw [bk_size] at hr ho hge
       exact StepI.runs (v := .slice A x.b.length cap) (w' := w5) rfl rfl (by go_simp) ⟨trivial, Below.trans hI (hb5.mono (Below.size hI)), A, cap, rfl, ho.ints, hge, hcm, ho.nilLen, fun b o hA => Nat.le_trans (Below.size hI) (ho.lt b (by rw [hA]; rfl)).1⟩
     · intro us au w1 k5 hlo hhi ha hd hst hI
       have e1 := hd 1 _ (by kernel_rfl) rfl
       have q23 := slot_at (t := 23) 1 ha (by kernel_rfl) (by kernel_rfl) (by kernel_rfl) e1
       have p23 := slot_norm q23
       clear ha hd hst
       exact StepI.pure (v := .int .i64 x.kd) rfl rfl (by go_simp) ⟨rfl, hI⟩
     · intro us au w1 ha hd hst hI
       obtain ⟨e4⟩ := hd 4 _ (by kernel_rfl) rfl
       have q26 := slot_at (t := 26) 4 ha (by kernel_rfl) (by kernel_rfl) (by kernel_rfl) (Eq.refl (us 4))
       have p26 := slot_norm q26
       clear ha hd hst
       obtain ⟨hb, A, c, hv, h⟩ := hI
       rw [hv] at p26
       exact StepI.pure (v := .slice A x.b.length c) rfl rfl (by go_simp) ⟨trivial, hb, A, c, rfl, h⟩
     · intro us au w1 k7 hlo hhi ha hd hst hI
       obtain rfl : k7 = 2 := by omega
       clear ha hd hst
       exact StepI.pure (v := .bool true) rfl rfl (by go_simp) ⟨rfl, hI⟩
    case done =>
     intro us w1 hI hd
     obtain ⟨hb, A, c, hv, hI5, hc5, hm5, hn5⟩ := hI
     have e5 := hd 5 _ (by show 5 < 8; decide) rfl
     have e7 := hd 7 _ (by show 7 < 8; decide) rfl
     have HI5 := Lib.hid hI5
     have HW5 := Lib.hid hb
     have HC5 := Lib.hid (And.intro hc5 (And.intro hm5 hn5))
     clear hd hb hI5 hc5 hm5 hn5
     simp only [putAll, hv, e5, e7]
     go_simp
     go_wp2
     go_ret3
     exact ⟨HBA.out.trans (HW5.out.mono HBA.out.size), by rw [HRR.out]; exact ⟨A, c, rfl, HI5.out, HC5.out.1, HC5.out.2.1, HC5.out.2.2.1, fun b o hA => Nat.le_trans HBA.out.size (HC5.out.2.2.2 b o hA)⟩⟩
theorem get1_any (w : World) (K : Nat → Prop) (r b1 b2 : Nat) (R : List Kn) (gone d : Gid) (h : RepAt w K r R) (hl : R.length ≤ 1073741824) (hz : ∀ x ∈ R, x.b.length ≤ 140737488351300)
 (k1 : w.cell? ⟨b1, 0, none⟩ = some (.pointer (some ⟨r, 0, none⟩))) (k2 : w.cell? ⟨b2, 0, none⟩ = some (.string (bk gone))) :
 Calls Tryz.prog 38 #[.string (bk d), .pointer (some ⟨b1, 0, none⟩), .pointer (some ⟨b2, 0, none⟩)] w fun e w' => Below w.heap.size w w' ∧ TellPost (withoutK R gone d) e w' :=
 (get1F_any w K r b1 b2 R gone d h hl hz k1 k2).mono fun _ _ h => ⟨h.1, h.2.tell⟩
theorem block_lt {w : World} {a : Addr} {v : Value} (h : w.cell? a = some v) : a.block < w.heap.size := by
 rcases Nat.lt_or_ge a.block w.heap.size with h' | h'
 · exact h'
 · simp [World.cell?, Array.getElem?_eq_none h'] at h
theorem getter_get (r b1 b2 : Nat) (R : List Kn) (gone : Gid) (hl : R.length ≤ 1073741824) (hz : ∀ x ∈ R, x.b.length ≤ 140737488351300) :
 Getter 38 (.pointer (some ⟨b1, 0, none⟩)) (.pointer (some ⟨b2, 0, none⟩)) (withoutK R gone) (GetSt r b1 b2 R gone) where
 ent := fun W args => enters_of Tryz.func38 (by kernel_rfl) rfl _ _
 low := fun h => h.1
 keep := fun {F S qs w w'} h hc hS => by
  obtain ⟨h0, h1, h2, h3, h4, h5⟩ := h
  exact ⟨fun k hk => Nat.lt_of_lt_of_le (h0 k hk) hc.size, h1.keep hc (fun k hk _ => hS k hk) (fun k hk _ => hk), h2, h3, (World.cell?_of_block (hc.block b1 (block_lt h4) (hS b1 h2))).trans h4, (World.cell?_of_block (hc.block b2 (block_lt h5) (hS b2 h3))).trans h5⟩
 call := fun {F qs w} d h => by
  obtain ⟨h0, h1, h2, h3, h4, h5⟩ := h
  refine (get1_any w F r b1 b2 R gone d h1 hl hz h4 h5).mono ?_
  rintro e w1 ⟨hb, ht⟩
  exact ⟨F, ⟨fun k hk => Nat.lt_of_lt_of_le (h0 k hk) hb.size, h1.below hb, h2, h3, (hb.cell (block_lt h4)).trans h4, (hb.cell (block_lt h5)).trans h5⟩, Chg.of_below hb, fun k hk => .inl hk, ht⟩
/-- A made function with two captured variables. -/
def fnV (f : FuncId) (c1 c2 : Value) : Value := .func (.func f) #[] #[c1, c2]
set_option maxRecDepth 100000 in
theorem get_any (w : World) (r : Nat) (gone : Gid) :
 Calls Tryz.prog 17 #[.pointer (some ⟨r, 0, none⟩), .string (bk gone)] w fun e w' =>
  e = .returned (fnV 38 (.pointer (some ⟨w.heap.size, 0, none⟩)) (.pointer (some ⟨w.heap.size + 1, 0, none⟩))) ∧ Below w.heap.size w w' ∧
  w'.cell? ⟨w.heap.size, 0, none⟩ = some (.pointer (some ⟨r, 0, none⟩)) ∧ w'.cell? ⟨w.heap.size + 1, 0, none⟩ = some (.string (bk gone)) := by
 go_enter Tryz.func17, Tryz.ntmps17
 go_wp2
 go_ret
 refine ⟨rfl, ((Below.refl _ _).alloc (Nat.le_refl _) _).alloc (by simp) _, ?_, ?_⟩
 · have h1 : (w.alloc (.cells #[.pointer (some ⟨r, 0, none⟩)] 24)).cell? ⟨w.heap.size, 0, none⟩ = some (.pointer (some ⟨r, 0, none⟩)) := by rw [World.cell?_alloc_at _ _ _ _ (by simp)]; rfl
   exact (World.cell?_of_block (heap_alloc_old _ _ (by simp))).trans h1
 · have hW : (w.alloc (.cells #[.pointer (some ⟨r, 0, none⟩)] 24)).heap.size = w.heap.size + 1 := by simp
   generalize w.alloc (.cells #[.pointer (some ⟨r, 0, none⟩)] 24) = W at *
   have h2 : (W.alloc (.cells #[.string (bk gone)] 9)).cell? ⟨W.heap.size, 0, none⟩ = some (.string (bk gone)) := by rw [World.cell?_alloc_at _ _ _ _ (by simp)]; rfl
   rw [hW] at h2
   exact h2
end Go.Proofs.YtihanglnjghcfaaGreatDoor
namespace Go.Proofs.YtihanglnjghcfaaGreatDoor
open Go.RowKit Go.Maps
set_option linter.unusedVariables false
set_option linter.unusedSimpArgs false

theorem EnvO.chg {S : Nat → Prop} {w w' : World} (h : EnvO w) (hc : Chg S w w') (h1 : ¬ S 1) (h2 : ¬ S 2) : EnvO w' := by
 have cc : ∀ {a : Addr} {v : Value}, w.cell? a = some v → ¬ S a.block → w'.cell? a = some v := fun {a v} hv hn => (World.cell?_of_block (hc.block a.block (block_lt hv) hn)).trans hv
 exact ⟨⟨fun c hcl => cc (h.tabs.1 c hcl) h1, fun i hi => ⟨cc (h.tabs.2 i hi).1 h2, cc (h.tabs.2 i hi).2 h2⟩⟩⟩
/-- What ask answers. -/
def AskAns (o : Option Kn) (w0 w' : World) (F' : Nat → Prop) (e : Ending) : Prop :=
 match o with
 | none => e = .returned (.tuple #[.nilIface, .int .i64 61])
 | some x => (lkOf x.kd x.b = none ∧ e = .returned (.tuple #[.nilIface, .int .i64 3])) ∨
  ∃ IF B, e = .returned (.tuple #[IF, .int .i64 0]) ∧ w0.heap.size ≤ B ∧ (∀ k, F' k → k < B) ∧ lkOf x.kd x.b ≠ none ∧ ObjIs w' B x.kd x.b IF
def GAsk (St : (Nat → Prop) → List Gid → World → Prop) (F : Nat → Prop) (qs : List Gid) (d : Gid) (o : Option Kn) (w : World) (e : Ending) (w' : World) : Prop :=
 ∃ F', St F' (qs ++ [d]) w' ∧ Chg F w w' ∧ (∀ k, F' k → F k ∨ w.heap.size ≤ k) ∧ AskAns o w w' F' e
set_option maxRecDepth 100000 in
set_option maxHeartbeats 2000000 in
theorem askN_any {f : FuncId} {c1 c2 : Value} {G : Gid → Option Kn} {St : (Nat → Prop) → List Gid → World → Prop} {N : Nat} (hg : GetterN N f c1 c2 G St) (F : Nat → Prop) (qs : List Gid) (w : World) (d : Gid) (hq : qs.length < N) (hS : St F qs w) (hE : EnvO w)
 (h1 : ¬ F 1) (h2 : ¬ F 2) (hz : ∀ x, G d = some x → x.b.length ≤ 1099511627775) :
 Calls Tryz.prog 41 #[fnV f c1 c2, .string (bk d)] w (GAsk St F qs d (G d) w) := by
 have hcall := hg.call d hq hS
 have HG := Lib.hid hg
 have HE := Lib.hid hE
 have HT := Lib.hid (And.intro h1 h2)
 have HZ := Lib.hid hz
 have hnil : (binOp .eql 38 (.func (.func f) #[] #[c1, c2]) .nilFunc).run Tryz.prog w = .ok (.bool false) w := by kernel_rfl
 clear hg hq hS hE h1 h2 hz
 cases hgd : G d with
 | none =>
  rw [hgd] at hcall
  have HC := Lib.hid hcall
  clear hcall hgd
  have hcf : ∀ W : World, (callFunc f #[.string (bk d), c1, c2]).run Tryz.prog W = .ok (.enter f #[.string (bk d), c1, c2]) W := fun W => HG.out.ent W _
  unfold fnV
  go_enter Tryz.func41, Tryz.ntmps41
  go_upto_region 3 with (fail)
  go_wp2_with fail
  refine HC.out.mono ?_
  rintro e w1 ⟨F1, hs1, hc1, hf1, rfl⟩
  have HF := Lib.hid (And.intro hs1 (And.intro hc1 hf1))
  clear hs1 hc1 hf1
  go_wp2
  go_ret2
  exact ⟨F1, HF.out.1, HF.out.2.1, HF.out.2.2, rfl⟩
 | some x =>
  rw [hgd] at hcall
  have HC := Lib.hid hcall
  have HZ2 := Lib.hid (HZ.out x hgd)
  clear hcall hgd HZ
  have hcf : ∀ W : World, (callFunc f #[.string (bk d), c1, c2]).run Tryz.prog W = .ok (.enter f #[.string (bk d), c1, c2]) W := fun W => HG.out.ent W _
  unfold fnV
  go_enter Tryz.func41, Tryz.ntmps41
  go_upto_region 3 with (fail)
  go_wp2_with fail
  refine HC.out.mono ?_
  rintro e w1 ⟨F1, hs1, hc1, hf1, A, c, rfl, hI, hle, hcm, hnz⟩
  have HF := Lib.hid (And.intro hs1 (And.intro hc1 hf1))
  have HI := Lib.hid hI
  have HM := Lib.hid (And.intro hle (And.intro hcm hnz))
  clear hs1 hc1 hf1 hI hle hcm hnz
  have HE1 := Lib.hid (HE.out.chg HF.out.2.1 HT.out.1 HT.out.2)
  have HP := Lib.hid (oparse_any x.kd A x.b.length c x.b w1 HE1.out HI.out rfl HM.out.1 HM.out.2.1 HZ2.out HM.out.2.2)
  unfold ParsePost at HP
  have HS1 := Lib.hid (HG.out.low HF.out.1)
  go_wp2_with fail
  refine HP.out.mono ?_
  rintro e w2 ⟨hb2, ⟨hn, k, hk, rfl⟩ | ⟨IF, rfl, hn, ho⟩⟩
  · have hs2 := HG.out.keep HF.out.1 (Chg.of_below (S := fun k => w1.heap.size ≤ k) hb2) (fun k hk => Nat.not_le.2 (HS1.out k hk))
    have hc2 : Chg F w w2 := HF.out.2.1.trans (Chg.of_below (S := F) hb2) (fun _ _ h => h)
    have HQ := Lib.hid (And.intro hs2 (And.intro hc2 hn))
    clear hs2 hc2 hn hb2
    have hkn : ¬ k = 0 := by simpa using hk
    go_wp2
    go_ret2
    exact ⟨F1, HQ.out.1, HQ.out.2.1, HF.out.2.2, .inl ⟨HQ.out.2.2, rfl⟩⟩
  · have hs2 := HG.out.keep HF.out.1 (Chg.of_below (S := fun k => w1.heap.size ≤ k) hb2) (fun k hk => Nat.not_le.2 (HS1.out k hk))
    have hc2 : Chg F w w2 := HF.out.2.1.trans (Chg.of_below (S := F) hb2) (fun _ _ h => h)
    have HQ := Lib.hid (And.intro hs2 (And.intro hc2 (And.intro hn ho)))
    clear hs2 hc2 hn ho hb2
    go_wp2
    go_ret2
    exact ⟨F1, HQ.out.1, HQ.out.2.1, HF.out.2.2, .inr ⟨IF, w1.heap.size, rfl, HF.out.2.1.size, HS1.out, HQ.out.2.2.1, HQ.out.2.2.2⟩⟩
theorem ask_any {f : FuncId} {c1 c2 : Value} {G : Gid → Option Kn} {St : (Nat → Prop) → List Gid → World → Prop} (hg : Getter f c1 c2 G St) (F : Nat → Prop) (qs : List Gid) (w : World) (d : Gid) (hS : St F qs w) (hE : EnvO w)
 (h1 : ¬ F 1) (h2 : ¬ F 2) (hz : ∀ x, G d = some x → x.b.length ≤ 1099511627775) :
 Calls Tryz.prog 41 #[fnV f c1 c2, .string (bk d)] w (GAsk St F qs d (G d) w) :=
 askN_any (hg.toN (qs.length + 1)) F qs w d (Nat.lt_succ_self _) hS hE h1 h2 hz
end Go.Proofs.YtihanglnjghcfaaGreatDoor
namespace Go.Proofs.YtihanglnjghcfaaGreatDoor
open Go.RowKit Go.Maps
set_option linter.unusedVariables false
set_option linter.unusedSimpArgs false

/-- The links of one object laid into the list, until one does not fit (easy: all). -/
def linksW (easy : Bool) (l : List Git) : List Glk → List Git × Bool
 | [] => (l, true)
 | k :: ks => if (addG l k).2 = false ∧ easy = false then ((addG l k).1, false) else linksW easy (addG l k).1 ks
/-- One item looked at: the list behind it, and the error. -/
def lookW (easy : Bool) (G : Gid → Option Gob) (l : List Git) (i : Nat) : List Git × Int :=
 match l[i]? with
 | none => (l, 0)
 | some x =>
  match G x.id with
  | none => (l, 61)
  | some o =>
   match o.lk with
   | none => (l, 3)
   | some ks =>
    if x.kd ≠ 0 ∧ x.kd ≠ o.kd then (l, 3) else
    ((linksW easy (l.modify i fun y => ⟨y.id, o.kd⟩) ks).1, if (linksW easy (l.modify i fun y => ⟨y.id, o.kd⟩) ks).2 then 0 else 3)
theorem linksW_is : ∀ (ks : List Glk) (l : List Git), linksG l ks = if (linksW false l ks).2 then some (linksW false l ks).1 else none
 | [], l => rfl
 | k :: ks, l => by
  unfold linksG linksW
  by_cases hk : (addG l k).2 = true
  · simp [hk, linksW_is ks]
  · have hf : (addG l k).2 = false := by simpa using hk
    simp [hf]
theorem lookW_is (G : Gid → Option Gob) (l : List Git) (i : Nat) : lookG G l i = if (lookW false G l i).2 = 0 then .ok (lookW false G l i).1 else .error (lookW false G l i).2 := by
 have h0 : ∀ {α : Type} (o : Option α), o = none ∨ ∃ x, o = some x := fun o => by cases o <;> simp
 unfold lookG lookW
 rcases h0 (l[i]?) with hx | ⟨x, hx⟩
 · simp only [hx]; rfl
 · rcases h0 (G x.id) with hg | ⟨o, hg⟩
   · simp only [hx, hg]; rfl
   · rcases h0 o.lk with hk | ⟨ks, hk⟩
     · simp only [hx, hg, hk]; rfl
     · simp only [hx, hg, hk]
       by_cases hc : x.kd ≠ 0 ∧ x.kd ≠ o.kd
       · simp only [if_pos hc]; rfl
       · simp only [if_neg hc, linksW_is]
         cases (linksW false (l.modify i fun y => ⟨y.id, o.kd⟩) ks).2 <;> rfl
theorem flatMap_le {α β : Type} (f : α → List β) {a : α} : ∀ {l : List α}, a ∈ l → (f a).length ≤ (l.flatMap f).length
 | [], h => by simp at h
 | x :: l, h => by
  rw [List.flatMap_cons, List.length_append]
  rcases List.mem_cons.1 h with rfl | h
  · omega
  · have := flatMap_le f h; omega
/-- What an object hangs on is named by a part of its bytes, or by forty letters; of a kind that is one. -/
theorem lkOf_each {kd : Int} {b : List UInt8} {ks : List Lk} (h : lkOf kd b = some ks) : ∀ k ∈ ks, k.id.size ≤ b.length + 40 := by
 unfold lkOf at h
 split at h
 · obtain ⟨r, hr, rfl⟩ := Option.map_eq_some_iff.1 h
   have hb := commit_backU hr
   intro k hk
   unfold comK at hk
   rcases List.mem_cons.1 hk with rfl | hk
   · rw [hb]; show (bk r.t).size ≤ _; rw [bk_size]; unfold commitU; simp only [List.length_append]; omega
   · obtain ⟨q, hq, rfl⟩ := List.mem_map.1 hk
     obtain ⟨p, hp, rfl⟩ := List.mem_map.1 hq
     have h2 : p.length ≤ (r.P.flatMap parU).length := by
      have h3 : (parU p).length ≤ (r.P.flatMap parU).length := flatMap_le parU hp
      unfold parU at h3
      simp only [List.length_append] at h3
      unfold parU
      omega
     show (bk p).size ≤ _
     rw [bk_size, hb]; unfold commitU; simp only [List.length_append]; omega
 · split at h
   · obtain ⟨L, hL, rfl⟩ := Option.map_eq_some_iff.1 h
     have h1 := treeU_id _ _ _ _ hL (by simp)
     intro k hk
     unfold treeK at hk
     obtain ⟨x, hx, hk⟩ := List.mem_flatMap.1 hk
     have h2 := h1 x hx
     unfold entK at hk
     split at hk
     · simp at hk; subst hk; show x.i.size ≤ _; omega
     · split at hk
       · simp at hk
       · simp at hk; subst hk; show x.i.size ≤ _; omega
   · split at h
     · injection h with h; subst h; simp
     · split at h
       · obtain ⟨r, hr, rfl⟩ := Option.map_eq_some_iff.1 h
         have hb := tag_backU hr
         intro k hk
         simp at hk; subst hk
         show (bk r.o).size ≤ _
         rw [bk_size, hb]; unfold tagU; simp only [List.length_append]; omega
       · cases h
theorem addG_le (l : List Git) (k : Glk) : (addG l k).1.length ≤ l.length + 1 := by
 unfold addG
 cases atG l k.id with
 | none => simp
 | some i => dsimp only; split <;> simp
end Go.Proofs.YtihanglnjghcfaaGreatDoor
namespace Go.Proofs.YtihanglnjghcfaaGreatDoor
open Go.RowKit Go.Maps
set_option linter.unusedVariables false
set_option linter.unusedSimpArgs false

/-- The texts, rising. -/
def sortG (L : List Gid) : List Gid := L.mergeSort fun x y => decide (x ≤ y)
theorem sortG_len (L : List Gid) : (sortG L).length = L.length := by unfold sortG; exact List.length_mergeSort _
theorem sortG_mem {L : List Gid} {x : Gid} : x ∈ sortG L ↔ x ∈ L := (List.mergeSort_perm _ _).mem_iff
/-- What slices.Sort does to a row of texts. -/
def SortsS : Prop := ∀ (w : World) (B : Nat) (A : Option Addr) (n c : Nat) (P : List Gid), OwnS w B 9 1 (.slice A n c) n (strVs P) → n ≤ 1073741824 →
 Calls Tryz.prog 60 #[.slice A n c] w fun e w' => e = .returned (.tuple #[]) ∧ OwnS w' B 9 1 (.slice A n c) n (strVs (sortG P)) ∧ Chg (fun k => Value.ownBlock (.slice A n c) = some k) w w'
set_option maxRecDepth 100000 in
theorem clipS_any (A : Option Addr) (n c : Nat) (w : World) (hn : n ≤ c) (hc : c ≤ 9223372036854775807) :
 Calls Tryz.prog 47 #[.slice A n c] w fun e w' => e = .returned (.slice A n n) ∧ w = w' := by
 have h0 : (n : Int) ≤ c := by omega
 go_enter Tryz.func47, Tryz.ntmps47
 go_wp2
 go_ret
 exact ⟨rfl, rfl⟩
theorem info_str1 : (Tryz.prog.info? 9).map (fun i => (i.zero, i.size, i.bytes)) = some (some (.string ⟨#[]⟩), 1, 16) := by kernel_rfl
theorem OwnS.capM {w : World} {base size n c : Nat} {e : TypeId} {A : Option Addr} {xs : List Value} (h : OwnS w base e size (.slice A n c) n xs) : c ≤ 9223372036854775807 := by
 rcases h.2 with ⟨hv, _⟩ | ⟨g, off, cap, cur, hv, _, _, _, hm, _⟩
 · injection hv with _ _ h1; omega
 · injection hv with _ _ h1
   subst h1
   unfold maxLen at hm
   omega
def IdsPost (L : List Gid) (w : World) (e : Ending) (w' : World) : Prop :=
 Below w.heap.size w w' ∧ ∃ A, e = .returned (.slice A L.length L.length) ∧ OwnS w' w.heap.size 9 1 (.slice A L.length L.length) L.length (strVs L)
set_option maxRecDepth 100000 in
set_option maxHeartbeats 2000000 in
theorem ids_any (hSo : SortsS) (K : Nat → Prop) (g : Nat) (get : Value) (easy : Bool) (l : List Git) (w : World) (h : WalkAt w K g get easy l) (hl : l.length ≤ 1073741824) :
 Calls Tryz.prog 37 #[.pointer (some ⟨g, 0, none⟩)] w (IdsPost (sortG (l.map (·.id))) w) := by
 obtain ⟨i0, hi, hz0, hz1, hz2⟩ := info_parts info_str1
 obtain ⟨_, A, c, _, _, hce, how, _⟩ := h
 have hG : Hid (∀ (i : Nat) (x : Git), l[i]? = some x → ∃ b o, A = some ⟨b, o, none⟩ ∧ b < w.heap.size ∧ w.cell? ⟨b, o + i * 2, none⟩ = some (.string (bk x.id)) ∧ w.cell? ⟨b, o + i * 2 + 1, none⟩ = some (.int .i64 x.kd)) := Lib.hid (fun i x hx => by
  obtain ⟨b, o, h1, _, h2, h3⟩ := OwnS.flat itV_len (by decide) how hx
  exact ⟨b, o, h1, h2, h3 0 (by decide), h3 1 (by decide)⟩)
 have k1 : w.cell? ⟨g, 1, none⟩ = some (.slice A l.length c) := hce.cell 1 (by decide)
 have HL := Lib.hid hl
 clear hce how hl
 go_enter Tryz.func37, Tryz.ntmps37
 go_wp2
 go_loopw [3, 11] (fun v3 vn wr => ∃ (n : Nat) (A3 : Option Addr) (c3 : Nat), vn = .int .i64 n ∧ v3 = .slice A3 n c3 ∧ n ≤ l.length ∧ OwnS wr w.heap.size 9 1 (.slice A3 n c3) n (strVs ((l.take n).map (·.id))) ∧ Below w.heap.size w wr) (fun _ vn _ => l.length - (intOf vn).toNat)
 case atStart => exact ⟨0, none, 0, rfl, rfl, by omega, OwnS.nil _ _ _ _, Below.refl _ _⟩
 case round =>
  obtain ⟨n, A3, c3, rfl, rfl, hn, ho, hb⟩ := hrel
  have HO := Lib.hid ho
  have HB := Lib.hid hb
  clear ho hb
  by_cases hlt : n < l.length
  · have d1 : decide ((n : Int) < (l.length : Int)) = true := decide_eq_true (by omega)
    have d1' : decide (n < l.length) = true := decide_eq_true hlt
    obtain ⟨b, o, hA, hbl, hc0, hc1⟩ := hG.out n l[n] (List.getElem?_eq_getElem hlt)
    subst hA
    have HTK : Hid (strVs ((l.take (n + 1)).map (·.id)) = strVs ((l.take n).map (·.id)) ++ [.string (bk l[n].id)]) := Lib.hid (by unfold strVs; rw [List.take_add_one, List.getElem?_eq_getElem hlt, List.map_append, List.map_append]; rfl)
    generalize hx : l[n] = x at *
    have f0 := (HB.out.cell (p := ⟨b, o + n * 2, none⟩) hbl).trans hc0
    have f1 := (HB.out.cell (p := ⟨b, o + n * 2 + 1, none⟩) hbl).trans hc1
    have hle : ¬ (l.length : Int) ≤ n := by omega
    have hn0 : (0 : Int) ≤ n := by omega
    have hnl : (n : Int) < l.length := by omega
    have hw1 : IntKind.i64.wrap ((n : Int) + 1) = (n : Int) + 1 := IntWalk.i64_in _ (by have := HL.out; omega)
    have z0 : (wr.alloc (.cells #[.string (bk x.id), .int .i64 x.kd] 101)).cell? ⟨wr.heap.size, 0, none⟩ = some (.string (bk x.id)) := by rw [World.cell?_alloc_at _ _ _ _ (by simp)]; rfl
    have HS := Lib.hid (Src.one_new (P := Tryz.prog) (w := wr.alloc (.cells #[.string (bk x.id), .int .i64 x.kd] 101)) (u := .string (bk x.id)) (t := 9) rfl)
    have HOA := Lib.hid ((HO.out.alloc (.cells #[.string (bk x.id), .int .i64 x.kd] 101)).alloc (.cells #[.string (bk x.id)] 9))
    have HBA : Hid (Below w.heap.size w ((wr.alloc (.cells #[.string (bk x.id), .int .i64 x.kd] 101)).alloc (.cells #[.string (bk x.id)] 9))) := Lib.hid (HB.out.trans ((((Below.refl _ _).alloc (Nat.le_refl _) _).alloc (by simp) _).mono HB.out.size))
    have hm9 : n + 1 ≤ maxLen := by have := HL.out; unfold maxLen; omega
    have hb9 : (n + 1) * 16 ≤ 140737488355328 := by have := HL.out; omega
    clear hc0 hc1 hbl hx
    go_upto_region 5 with (fail)
    generalize wr.alloc (.cells #[.string (bk x.id), .int .i64 x.kd] 101) = wa at *
    go_wp2_with (at_builtin; go_loud (refine wpList_append_S rfl (.tmp 15) (.tmp 18) 32 32 rfl i0 (.string ⟨#[]⟩) 16 (.slice 9) Tryz.underlying32 Tryz.underlying32 (fun _ h => by cases h) hi hz0 hz1 hz2 rfl rfl rfl HOA.out HS.out hm9 hb9 HBA.out.size ?_; intro A8 c8 w8; generalize hnn : n + 1 = nn at *; intro ho8 hg8 hw8; go_loud (have HO8 := Lib.hid ho8); go_loud (have HB8 := Lib.hid (HBA.out.grown hg8 HBA.out.size (fun j hj => (HOA.out.lt j hj).1))); have HNN := Lib.hid hnn; clear ho8 hg8 hw8 hnn))
    go_roundw
    case rel => exact ⟨nn, A8, c8, by rw [← HNN.out]; rfl, rfl, by have := HNN.out; omega, by rw [HTK.out]; exact HO8.out, HB8.out⟩
    case measure => have := HNN.out; simp [intOf]; omega
  · have d1 : decide ((n : Int) < (l.length : Int)) = false := decide_eq_false (by omega)
    have d1' : decide (n < l.length) = false := decide_eq_false hlt
    have hnl : n = l.length := by omega
    rw [hnl] at HO
    have HO2 : Hid (OwnS wr w.heap.size 9 1 (.slice A3 l.length c3) l.length (strVs (l.map (·.id)))) := Lib.hid (by have := HO.out; rwa [List.take_length] at this)
    have HSO := Lib.hid (hSo wr w.heap.size A3 l.length c3 _ HO2.out HL.out)
    have HLT := Lib.hid HO2.out.lt
    subst hnl
    clear d1 d1' hlt HO HO2
    go_wp2_with fail
    refine HSO.out.mono ?_
    rintro e w2 ⟨rfl, ho2, hc2⟩
    have HC := Lib.hid (HB.out.trans (hc2.below HB.out.size (fun k hk h => by have := HLT.out k h; omega)))
    have HO2 := Lib.hid ho2
    have HCP := Lib.hid (clipS_any A3 l.length c3 w2 ho2.cap ho2.capM)
    clear ho2 hc2
    go_wp2_with fail
    refine HCP.out.mono ?_
    rintro e w3 ⟨rfl, rfl⟩
    go_wp2
    go_ret
    have e1 : (sortG (l.map (·.id))).length = l.length := by rw [sortG_len, List.length_map]
    refine ⟨HC.out, A3, by rw [e1]; rfl, ?_⟩
    rw [e1]
    exact HO2.out.clipN
end Go.Proofs.YtihanglnjghcfaaGreatDoor
namespace Go.Proofs
open Go.Shelf
def Tryz.laysSlM6_f60_ren : Go.Shelf.Ren := ⟨fun | 6 => 60 | 8 => 81 | 9 => 80 | 19 => 101 | 20 => 102 | 21 => 93 | 22 => 94 | 23 => 95 | 24 => 96 | 25 => 97 | 26 => 98 | 27 => 64 | 28 => 99 | 29 => 100 | 36 => 117 | 31 => 118 | 32 => 119 | 37 => 120 | 38 => 121 | 39 => 87 | 41 => 134 | n => n, fun | 27 => 32 | 29 => 9 | 3 => 3 | 32 => 77 | 26 => 32 | 0 => 0 | 44 => 140 | 46 => 138 | 4 => 4 | 36 => 156 | 35 => 155 | 41 => 99 | 5 => 5 | 9 => 9 | 53 => 173 | 57 => 177 | 63 => 185 | 64 => 186 | n => n, fun | n => n⟩
theorem Tryz.laysSlM6_f60 : Go.Proofs.SlLaysM.n6 Tryz.prog Tryz.laysSlM6_f60_ren := {
 mixed := by kernel_rfl
 f6 := ⟨Tryz.f60.name, by decide, Tryz.func60.trans (congrArg some (by kernel_rfl))⟩
 f8 := Tryz.func81.trans (congrArg some (by kernel_rfl))
 f9 := ⟨Tryz.f80.name, by decide, Tryz.func80.trans (congrArg some (by kernel_rfl))⟩
 f19 := Tryz.func101.trans (congrArg some (by kernel_rfl))
 f20 := Tryz.func102.trans (congrArg some (by kernel_rfl))
 f21 := ⟨Tryz.f93.name, by decide, Tryz.func93.trans (congrArg some (by kernel_rfl))⟩
 f22 := ⟨Tryz.f94.name, by decide, Tryz.func94.trans (congrArg some (by kernel_rfl))⟩
 f23 := ⟨Tryz.f95.name, by decide, Tryz.func95.trans (congrArg some (by kernel_rfl))⟩
 f24 := ⟨Tryz.f96.name, by decide, Tryz.func96.trans (congrArg some (by kernel_rfl))⟩
 f25 := ⟨Tryz.f97.name, by decide, Tryz.func97.trans (congrArg some (by kernel_rfl))⟩
 f26 := ⟨Tryz.f98.name, by decide, Tryz.func98.trans (congrArg some (by kernel_rfl))⟩
 f27 := ⟨Tryz.f64.name, by decide, Tryz.func64.trans (congrArg some (by kernel_rfl))⟩
 f28 := ⟨Tryz.f99.name, by decide, Tryz.func99.trans (congrArg some (by kernel_rfl))⟩
 f29 := ⟨Tryz.f100.name, by decide, Tryz.func100.trans (congrArg some (by kernel_rfl))⟩
 f31 := Tryz.func118.trans (congrArg some (by kernel_rfl))
 f32 := Tryz.func119.trans (congrArg some (by kernel_rfl))
 f36 := ⟨Tryz.f117.name, by decide, Tryz.func117.trans (congrArg some (by kernel_rfl))⟩
 f37 := ⟨Tryz.f120.name, by decide, Tryz.func120.trans (congrArg some (by kernel_rfl))⟩
 f38 := ⟨Tryz.f121.name, by decide, Tryz.func121.trans (congrArg some (by kernel_rfl))⟩
 f39 := ⟨Tryz.f87.name, by decide, Tryz.func87.trans (congrArg some (by kernel_rfl))⟩
 f41 := ⟨Tryz.f134.name, by decide, Tryz.func134.trans (congrArg some (by kernel_rfl))⟩
 t0 := Tryz.underlying0
 a0 := Tryz.isAgg0
 z0 := Tryz.sizeOf0
 v0 := Tryz.zeroValue0
 t3 := Tryz.underlying3
 a3 := Tryz.isAgg3
 z3 := Tryz.sizeOf3
 v3 := Tryz.zeroValue3
 t4 := Tryz.underlying4
 a4 := Tryz.isAgg4
 z4 := Tryz.sizeOf4
 v4 := Tryz.zeroValue4
 t5 := Tryz.underlying5
 a5 := Tryz.isAgg5
 z5 := Tryz.sizeOf5
 v5 := Tryz.zeroValue5
 t9 := Tryz.underlying9
 a9 := Tryz.isAgg9
 z9 := Tryz.sizeOf9
 v9 := Tryz.zeroValue9
 t26 := Tryz.underlying32
 a26 := Tryz.isAgg32
 z26 := Tryz.sizeOf32
 v26 := Tryz.zeroValue32
 t27 := Tryz.underlying32
 a27 := Tryz.isAgg32
 z27 := Tryz.sizeOf32
 v27 := Tryz.zeroValue32
 t29 := Tryz.underlying9
 a29 := Tryz.isAgg9
 z29 := Tryz.sizeOf9
 v29 := Tryz.zeroValue9
 t32 := Tryz.underlying77
 a32 := Tryz.isAgg77
 z32 := Tryz.sizeOf77
 v32 := Tryz.zeroValue77
 t35 := Tryz.underlying155
 a35 := Tryz.isAgg155
 z35 := Tryz.sizeOf155
 v35 := Tryz.zeroValue155
 t36 := Tryz.underlying156
 a36 := Tryz.isAgg156
 z36 := Tryz.sizeOf156
 v36 := Tryz.zeroValue156
 t41 := Tryz.underlying99
 a41 := Tryz.isAgg99
 z41 := Tryz.sizeOf99
 v41 := Tryz.zeroValue99
 t44 := Tryz.underlying140
 a44 := Tryz.isAgg140
 z44 := Tryz.sizeOf140
 v44 := Tryz.zeroValue140
 t46 := Tryz.underlying138
 a46 := Tryz.isAgg138
 z46 := Tryz.sizeOf138
 v46 := Tryz.zeroValue138
 t53 := Tryz.underlying173
 a53 := Tryz.isAgg173
 z53 := Tryz.sizeOf173
 v53 := Tryz.zeroValue173
 t57 := Tryz.underlying177
 a57 := Tryz.isAgg177
 z57 := Tryz.sizeOf177
 v57 := Tryz.zeroValue177
 t63 := Tryz.underlying185
 a63 := Tryz.isAgg185
 z63 := Tryz.sizeOf185
 v63 := Tryz.zeroValue185
 t64 := Tryz.underlying186
 a64 := Tryz.isAgg186
 z64 := Tryz.sizeOf186
 v64 := Tryz.zeroValue186 }
open Go.Sort Go.RowKit in
theorem Tryz.slices_Sort_string (blk off cap : Nat) (ss : List (List UInt8)) (w : World) (hH : Holds encStr w blk off ss.toArray) (hblk : blk < w.heap.size) (hsz : ss.length < 4611686018427387904) :
 Calls Tryz.prog 60 #[.slice (some ⟨blk, off, none⟩) ss.length cap] w fun e w' =>
  e = .returned (.tuple #[]) ∧ ∃ n os, w' = grow (putRow encStr (Sort.ahead w n) blk off (ss.mergeSort fun x y => decide (x ≤ y)).toArray) os := AnyM.slices_Sort_string Tryz.laysSlM6_f60 blk off cap ss w hH hblk hsz
open Go.RowKit Go.Sort in
/-- .. and plain. (LAID AT THE INSTANCE 'slices.Sort[[]string,string]': no walk: one application.) -/
theorem Tryz.slices_Sort_string_none (p : Option Addr) (cap : Nat) (w : World) :
 Calls Tryz.prog 60 #[.slice p 0 cap] w fun e w' => e = .returned (.tuple #[]) ∧ w' = w := AnyM.slices_Sort_string_none Tryz.laysSlM6_f60 p cap w
end Go.Proofs
