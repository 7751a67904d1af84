/- object.tree walked (printed by genobj.py out of XObQj.src). -/
import Derived.Test.YtihanglnjghcfaaGreatDoorGLn7
import Derived.Test.YtihanglnjghcfaaGreatDoorGLn3
import Derived.Deep.CutBlock
import Derived.Deep.DeepCutAuto
namespace Go.Proofs.YtihanglnjghcfaaGreatDoor
open Go.RowKit
set_option linter.unusedVariables false
set_option linter.unusedSimpArgs false

theorem Ints.takeU {k : IntKind} {w : World} {A : Option Addr} {xs : List Int} (h : Ints k w A xs) (n : Nat) : Ints k w A (xs.take n) := by
 intro hl
 rw [List.length_take] at hl
 obtain ⟨b, o, hA, hlt, hc⟩ := h (by omega)
 refine ⟨b, o, hA, hlt, fun j hj => ?_⟩
 rw [List.length_take] at hj
 rw [hc j (by omega)]
 simp [List.getD_eq_getElem?_getD, show j < n by omega]
theorem Ints.dropU {k : IntKind} {w : World} {b o : Nat} {xs : List Int} (h : Ints k w (some ⟨b, o, none⟩) xs) (n : Nat) : Ints k w (some ⟨b, o + n, none⟩) (xs.drop n) := by
 intro hl
 rw [List.length_drop] at hl
 obtain ⟨b', o', hA, hlt, hc⟩ := h (by omega)
 injection hA with hA
 injection hA with h1 h2 _
 subst h1; subst h2
 refine ⟨b, o + n, rfl, hlt, fun j hj => ?_⟩
 rw [List.length_drop] at hj
 rw [Nat.add_assoc, hc (n + j) (by omega)]
 simp [List.getD_eq_getElem?_getD]
theorem bytesBk_take (l : List UInt8) (n : Nat) : bytesOf (bk (l.take n)) = (bytesOf (bk l)).take n := by unfold bytesOf; rw [bk_list, bk_list, List.map_take]
theorem bytesBk_drop (l : List UInt8) (n : Nat) : bytesOf (bk (l.drop n)) = (bytesOf (bk l)).drop n := by unfold bytesOf; rw [bk_list, bk_list, List.map_drop]
/-- A piece of a slice made into a text. -/
theorem run_strU (A : Option Addr) (n c : Nat) (l : List UInt8) (w : World) (h : Ints .u8 w A (bytesOf (bk l))) (hn : l.length = n) : (convert 48 9 (.slice A n c)).run Tryz.prog w = .ok (.string (bk l)) w := by
 have h1 := run_str_ints (P := Tryz.prog) 48 9 5 Tryz.underlying48 Tryz.underlying5 Tryz.underlying9 A c _ h
 rw [strOfNums_bytes, bytesOf_len, bk_size, hn] at h1
 exact h1
def zEntU : Ent := ⟨⟨#[]⟩, ⟨#[]⟩, ⟨#[]⟩⟩
/-- What holds while an entry is put together. -/
def IEn (wr : World) (x : Ent) : List Value → World → Prop
 | [], w => Below wr.heap.size wr w
 | [v], w => Below wr.heap.size wr w ∧ ∃ g, v = .pointer (some ⟨g, 0, none⟩) ∧ wr.heap.size ≤ g ∧ Cel w g 116 3 (entF zEntU)
 | v :: _, w => Below wr.heap.size wr w ∧ ∃ g, v = .pointer (some ⟨g, 0, none⟩) ∧ wr.heap.size ≤ g ∧ Cel w g 116 3 (entF x)
theorem IEn.low {wr w : World} {x : Ent} : ∀ {vs : List Value}, IEn wr x vs w → Below wr.heap.size wr w
 | [], h => h
 | [_], h => h.1
 | _ :: _ :: _, h => h.1
theorem IEn.mono {wr w w' : World} {x : Ent} (hb : Below w.heap.size w w') : ∀ {vs : List Value}, IEn wr x vs w → IEn wr x vs w'
 | [], h => Below.trans h (hb.mono (Below.size h))
 | [_], h => by
  obtain ⟨h1, g, h2, h3, h4⟩ := h
  exact ⟨h1.trans (hb.mono h1.size), g, h2, h3, h4.below hb h4.blk⟩
 | _ :: _ :: _, h => by
  obtain ⟨h1, g, h2, h3, h4⟩ := h
  exact ⟨h1.trans (hb.mono h1.size), g, h2, h3, h4.below hb h4.blk⟩
theorem IEn.new {wr w : World} {x : Ent} (h : IEn wr x [] w) : IEn wr x [.pointer (some ⟨w.heap.size, 0, none⟩)] (w.alloc (.cells #[.string ⟨#[]⟩, .string ⟨#[]⟩, .string ⟨#[]⟩] 116)) :=
 ⟨Below.alloc h (Below.size h) _, w.heap.size, rfl, Below.size h, entF_new w zEntU⟩
def putEnU (w : World) (g : Nat) (m n i : ByteArray) : World := ((w.setCell ⟨g, 0, none⟩ (.string m)).setCell ⟨g, 1, none⟩ (.string n)).setCell ⟨g, 2, none⟩ (.string i)
theorem IEn.put {wr w : World} {x : Ent} {v v' : Value} {g : Nat} (h1 : Below wr.heap.size wr w) (h2 : v = .pointer (some ⟨g, 0, none⟩)) (h3 : wr.heap.size ≤ g) (h4 : Cel w g 116 3 (entF zEntU)) : IEn wr x [v, v'] (putEnU w g x.m x.n x.i) := by
 refine ⟨?_, g, h2, h3, ?_⟩
 · exact ((h1.setCell h3 _).setCell h3 _).setCell h3 _
 · refine (((h4.set 0 _).set 1 _).set 2 _).congr fun i hi => ?_
   rcases i with _ | _ | _ | i <;> first | rfl | omega
theorem Chg.eq_of {w w' : World} {g : Nat} (h : w.grownBy w' (some g)) : Chg (fun k => k = g) w w' := Chg.of_grown h (fun k hk => by injection hk with hk; exact hk.symm)
def namesR (L : List Ent) : List (List UInt8) := (L.map fun y => y.n.data.toList).reverse
theorem namesR_snoc (L : List Ent) (x : Ent) : namesR (L ++ [x]) = x.n.data.toList :: namesR L := by unfold namesR; simp
theorem namesR_len (L : List Ent) : (namesR L).length = L.length := by unfold namesR; simp
theorem Src.ent {P : Program} (w : World) (x : Ent) (t : TypeId) : Src P (w.alloc (.cells #[.string x.m, .string x.n, .string x.i] t)) 3 (.slice (some ⟨w.heap.size, 0, none⟩) 1 1) 1 (entV x) :=
 Src.vals rfl (by intro u hu; simp [entV] at hu; rcases hu with rfl | rfl | rfl <;> rfl) (fun _ => ⟨_, rfl, World.news_of_block (heap_alloc_new w _)⟩)
/-- What the reading of a tree holds in memory: the entries so far, the names seen. -/
structure TrSt (w0 w : World) (h g1 : Nat) (v : Value) (L : List Ent) (nm : List (List UInt8)) : Prop where
 low : Below h w0 w
 ct : Cel w h 164 1 (fun _ => v)
 lt : h < g1
 seen : SeenM w g1 nm.length nm
 own : OwnS w (g1 + 1) 116 3 v L.length (entVs L)
theorem TrSt.below {w0 w w' : World} {h g1 : Nat} {v : Value} {L : List Ent} {nm : List (List UInt8)} (k : TrSt w0 w h g1 v L nm) (hb : Below w.heap.size w w') : TrSt w0 w' h g1 v L nm :=
 ⟨k.low.trans (hb.mono (Nat.le_of_lt k.ct.blk)), k.ct.below hb k.ct.blk, k.lt, k.seen.below hb, k.own.chg (Chg.of_below (S := fun _ => False) hb) (fun _ _ h => h)⟩
theorem TrSt.upd {w0 w w' : World} {h g1 : Nat} {v : Value} {L : List Ent} {nm nm' : List (List UInt8)} (k : TrSt w0 w h g1 v L nm) (hg : w.grownBy w' (some g1)) (hs : SeenM w' g1 nm'.length nm') : TrSt w0 w' h g1 v L nm' := by
 have hc := Chg.eq_of hg
 have hl := k.lt
 exact ⟨k.low.trans (hc.below (Nat.le_of_lt k.ct.blk) (fun i hi e => by omega)), k.ct.chg hc (by omega), k.lt, hs, k.own.chg hc (fun j hj e => by have := (k.own.lt j hj).1; omega)⟩
theorem TrSt.grow {w0 w w' : World} {h g1 : Nat} {v : Value} {L : List Ent} {nm : List (List UInt8)} (k : TrSt w0 w h g1 v L nm) (hg : w.grownBy w' v.ownBlock) : Below h w0 w' ∧ Cel w' h 164 1 (fun _ => v) ∧ SeenM w' g1 nm.length nm := by
 have hc : Chg (fun j => g1 + 1 ≤ j) w w' := Chg.of_grown hg (fun j hj => (k.own.lt j hj).1)
 have hl := k.lt
 exact ⟨k.low.trans (hc.below (Nat.le_of_lt k.ct.blk) (fun i hi e => by omega)), k.ct.chg hc (by omega), k.seen.chg hc (by omega)⟩
theorem TrSt.new (w : World) : TrSt w ((w.alloc (.cells #[.slice none 0 0] 164)).alloc (.map #[] 0)) w.heap.size (w.heap.size + 1) (.slice none 0 0) [] [] := by
 refine ⟨((Below.refl _ _).alloc (Nat.le_refl _) _).alloc (by simp) _, ?_, by omega, ?_, OwnS.nil _ _ _ _⟩
 · refine (Cel.new w 164 #[.slice none 0 0] (fun _ => .slice none 0 0) (fun i hi => ?_)).alloc _
   have : i < 1 := hi
   obtain rfl : i = 0 := by omega
   rfl
 · have h := SeenM.new (w.alloc (.cells #[.slice none 0 0] 164))
   simpa using h
theorem OwnS.clip3 {w : World} {base : Nat} {e : TypeId} {A : Option Addr} {n c : Nat} {xs : List Value} (h : OwnS w base e 3 (.slice A n c) n xs) : OwnS w base e 3 (.slice A n n) n xs := by
 refine ⟨h.1, ?_⟩
 rcases h.2 with ⟨hv, rfl⟩ | ⟨g, off, cap, cur, hv, hb, hg, hn, hm, hs, ht⟩
 · injection hv with hA _ hc
   subst hA
   exact .inl ⟨rfl, rfl⟩
 · injection hv with hA _ hc
   subst hA; subst hc
   exact .inr ⟨g, off, n, cur, rfl, hb, hg, Nat.le_refl _, by omega, by omega, ht⟩
set_option maxRecDepth 100000 in
theorem clipEnt_any (A : Option Addr) (n c : Nat) (w : World) (hn : n ≤ c) (hc : c ≤ 9223372036854775807) :
 Calls Tryz.prog 108 #[.slice A n c] w fun e w' => e = .returned (.slice A n n) ∧ w = w' := by
 have h0 : (n : Int) ≤ c := by omega
 go_enter Tryz.func108, Tryz.ntmps108
 go_wp2
 go_ret
 exact ⟨rfl, rfl⟩
def slLen : Value → Nat
 | .slice _ n _ => n
 | _ => 0
def treeF (l : List UInt8) : Option (List Ent) := treeU (l.length + 1) l []
/-- What reading a tree answers. -/
def TreePost (l : List UInt8) (w : World) (e : Ending) (w' : World) : Prop :=
 Below w.heap.size w w' ∧ ((treeF l = none ∧ e = .returned (.tuple #[.nilIface, .bool false])) ∨
  ∃ L A, treeF l = some L ∧ e = .returned (.tuple #[.iface 164 (.agg #[.slice A L.length L.length]), .bool true]) ∧ OwnS w' w.heap.size 116 3 (.slice A L.length L.length) L.length (entVs L))
set_option maxRecDepth 100000 in
set_option maxHeartbeats 4000000 in
theorem tree_any (A0 : Option Addr) (n c0 : Nat) (l0 : List UInt8) (w : World) (hE : EnvO w) (hI : Ints .u8 w A0 (bytesOf (bk l0))) (hn : l0.length = n) (hnc : n ≤ c0) (hcm : c0 ≤ 9223372036854775807) (hs : n ≤ 8796093022000) :
 Calls Tryz.prog 84 #[.slice A0 n c0] w (TreePost l0 w) := by
 subst hn
 have HE := Lib.hid hE
 have HS := Lib.hid hs
 have HC0 := Lib.hid hnc
 have HM0 := Lib.hid hcm
 have hst := TrSt.new w
 have HI0 := Lib.hid hI
 have HTF : Hid (treeF l0 = treeU (l0.length + 1) l0 []) := Lib.hid rfl
 obtain ⟨i0, hi, hz0, hz1, hz2⟩ := info_parts info_ent
 have hmm := @run_makeMap Tryz.prog
 clear hE hs hI hnc hcm
 go_enter Tryz.func84, Tryz.ntmps84
 go_wp2
 generalize (w.alloc (.cells #[.slice none 0 0] 164)).alloc (.map #[] 0) = w2 at *
 generalize hg1 : w.heap.size + 1 = g1 at *
 generalize hh : w.heap.size = h at *
 have HH := Lib.hid hh
 have HST := Lib.hid hst
 clear hh hg1 hst
 go_loopw [0] (fun vb wr => ∃ (l : List UInt8) (L : List Ent) (f : Nat) (v : Value) (A : Option Addr) (c : Nat), vb = .slice A l.length c ∧ Ints .u8 w A (bytesOf (bk l)) ∧ l.length ≤ c ∧ c ≤ 9223372036854775807 ∧ TrSt w wr h g1 v L (namesR L) ∧ l.length < f ∧ L.length * 22 + l.length ≤ l0.length ∧ treeF l0 = treeU f l L ∧ ∀ y ∈ L, y.n.size ≤ l0.length) (fun vb _ => slLen vb)
 case atStart => exact ⟨l0, [], l0.length + 1, .slice none 0 0, A0, c0, rfl, HI0.out, HC0.out, HM0.out, HST.out, Nat.lt_succ_self _, by simp, HTF.out, fun y hy => by cases hy⟩
 case round =>
  clear HST HI0 HC0 HM0 HTF
  obtain ⟨l, L, f, v, A, c, rfl, hI, hlc, hcm, hst, hf, hLl, htf, hysz⟩ := hrel
  have HYS := Lib.hid hysz
  clear hysz
  have HST := Lib.hid hst
  have HIW := Lib.hid hI
  have HI := Lib.hid (hI.below (by rw [HH.out]; exact hst.low))
  have HTF := Lib.hid htf
  have HN : Hid (l.length < f ∧ L.length * 22 + l.length ≤ l0.length) := Lib.hid ⟨hf, hLl⟩
  clear hst hI htf hf hLl
  by_cases h0 : l.length = 0
  · have hl : l = [] := List.eq_nil_of_length_eq_zero h0
    have d0 : decide ((0 : Int) < (l.length : Int)) = false := decide_eq_false (by omega)
    have d0' : decide (0 < l.length) = false := decide_eq_false (by omega)
    obtain ⟨Av, cv, rfl⟩ := HST.out.own.shape
    have k0 : wr.cell? ⟨h, 0, none⟩ = some (.slice Av L.length cv) := HST.out.ct.cell 0 (by decide)
    have f0 : wr.frozen? ⟨h, 0, none⟩ = false := HST.out.ct.frozen 0
    have hcp := HST.out.own.cap
    have hcm2 := HST.out.own.capm
    have HYES : Hid (treeF l0 = some L) := Lib.hid (by
     obtain ⟨f', rfl⟩ : ∃ f', f = f' + 1 := ⟨f - 1, by have := HN.out; omega⟩
     rw [HTF.out, treeU, if_pos hl])
    clear h0 hl
    go_wp2_with (go_at_call 108; refine (clipEnt_any _ _ _ _ hcp hcm2).mono ?_; rintro e w9 ⟨rfl, rfl⟩)
    have hlt1 : h < g1 + 1 := by have := HST.out.lt; omega
    go_ret2
    refine ⟨by rw [HH.out]; exact HST.out.low.setCell (p := ⟨h, 0, none⟩) (Nat.le_refl _) _, .inr ⟨L, Av, HYES.out, rfl, ?_⟩⟩
    exact ((HST.out.own.clip3).setLow (a := ⟨h, 0, none⟩) hlt1 _).base_ (by rw [HH.out]; omega)
  · have d0 : decide ((0 : Int) < (l.length : Int)) = true := decide_eq_true (by omega)
    have d0' : decide (0 < l.length) = true := decide_eq_true (by omega)
    have HB1 := Lib.hid (fun w h => ibyte_any A l.length c l 32 w h rfl (by omega))
    have HB2 := Lib.hid (fun w h => ibyte_any A l.length c l 0 w h rfl (by omega))
    have hll : l.length ≤ 8796093022000 := by have := HN.out; have := HS.out; omega
    go_wp2_with fail
    refine (HB1.out wr HI.out).mono ?_
    rintro e w1 ⟨rfl, rfl⟩
    go_wp2_with fail
    refine (HB2.out w1 HI.out).mono ?_
    rintro e w3 ⟨rfl, rfl⟩
    clear HB1 HB2
    have hnone : ∀ (hx : ∀ i j : Nat, ¬ headOk l i j), treeF l0 = none := fun hx => by
     obtain ⟨f', rfl⟩ : ∃ f', f = f' + 1 := ⟨f - 1, by have := HN.out; omega⟩
     rw [HTF.out, treeU, if_neg (by intro h; rw [h] at h0; exact h0 rfl), entU_no hx]
    have HNONE := Lib.hid hnone
    clear hnone
    rcases idx_cases 32 l with ⟨hi32, _⟩ | ⟨i, hi32, hil, _, _⟩
    · have HNO : Hid (treeF l0 = none) := Lib.hid (HNONE.out (fun i j hx => by have := hx.1; omega))
      rw [hi32]
      clear hi32
      generalize Lib.indexByte l 0 = J at *
      go_wp2
      go_ret2
      exact ⟨by rw [HH.out]; exact HST.out.low, .inl ⟨HNO.out, rfl⟩⟩
    · by_cases hlt : Lib.indexByte l 0 < i
      · have HNO : Hid (treeF l0 = none) := Lib.hid (HNONE.out (fun i' j hx => by have h1 := hx.1; have h2 := hx.2.1; have h3 := hx.2.2.1; omega))
        rw [hi32]
        clear hi32
        generalize Lib.indexByte l 0 = J at *
        have e1 : decide ((i : Int) < 0) = false := decide_eq_false (by omega)
        have e2 : decide (J < (i : Int)) = true := decide_eq_true hlt
        clear hlt
        go_wp2
        go_ret2
        exact ⟨by rw [HH.out]; exact HST.out.low, .inl ⟨HNO.out, rfl⟩⟩
      · obtain ⟨j, hj0⟩ : ∃ j : Nat, Lib.indexByte l 0 = j := ⟨(Lib.indexByte l 0).toNat, by omega⟩
        have e1 : decide ((i : Int) < 0) = false := decide_eq_false (by omega)
        have e2 : decide ((j : Int) < (i : Int)) = false := decide_eq_false (by omega)
        have e2' : decide (j < i) = false := decide_eq_false (by omega)
        have hjl := Lib.indexByte_some hj0
        have hjlen : j < l.length := (List.getElem?_eq_some_iff.1 hjl.1).1
        have w1 : IntKind.i64.wrap ((j : Int) + 21) = (j : Int) + 21 := IntWalk.i64_in _ (by omega)
        by_cases hlen : l.length < j + 21
        · have HNO : Hid (treeF l0 = none) := Lib.hid (HNONE.out (fun i' j' hx => by have h1 := hx.1; have h2 := hx.2.1; have h3 := hx.2.2.2; rw [hj0] at h2; omega))
          have e3 : decide ((l.length : Int) < (j : Int) + 21) = true := decide_eq_true (by omega)
          have e3' : decide (l.length < j + 21) = true := decide_eq_true hlen
          rw [hi32, hj0]
          clear hi32 hj0 hlt hlen hjl hjlen
          go_wp2
          go_ret2
          exact ⟨by rw [HH.out]; exact HST.out.low, .inl ⟨HNO.out, rfl⟩⟩
        · have hij : i < j := by
           by_cases he : i = j
           · exfalso
             subst he
             have h1 := (Lib.indexByte_some hi32).1
             rw [hjl.1] at h1
             exact absurd h1 (by decide)
           · omega
          have e3 : decide ((l.length : Int) < (j : Int) + 21) = false := decide_eq_false (by omega)
          have e3' : decide (l.length < j + 21) = false := decide_eq_false hlen
          have HOK : Hid (headOk l i j) := Lib.hid ⟨hi32, hj0, hij, by omega⟩
          rw [hi32, hj0]
          clear hi32 hj0 hlt hjl
          go_upto_region 8 with (fail)
          obtain ⟨bb, oo, rfl, hbl, _⟩ := HI.out (by rw [bytesOf_len, bk_size]; omega)
          obtain ⟨p1, hp1⟩ : ∃ p1 : Nat, p1 = i + 1 := ⟨_, rfl⟩
          obtain ⟨p2, hp2⟩ : ∃ p2 : Nat, p2 = j + 1 := ⟨_, rfl⟩
          obtain ⟨p3, hp3⟩ : ∃ p3 : Nat, p3 = j + 21 := ⟨_, rfl⟩
          obtain ⟨ml, hml⟩ : ∃ ml : Nat, ml = j - p1 := ⟨_, rfl⟩
          have HS1 := Lib.hid (fun w1 (hb : Below w3.heap.size w3 w1) => run_strU (some ⟨bb, oo, none⟩) i c (l.take i) w1 (by rw [bytesBk_take]; exact (HI.out.below hb).takeU i) (by rw [List.length_take]; omega))
          have HS2 := Lib.hid (fun w1 (hb : Below w3.heap.size w3 w1) => run_strU (some ⟨bb, oo + p1, none⟩) ml (c - p1) ((l.drop p1).take ml) w1 (by rw [bytesBk_take, bytesBk_drop]; exact ((HI.out.below hb).dropU p1).takeU ml) (by rw [List.length_take, List.length_drop]; omega))
          have HS3 := Lib.hid (fun w1 (hb : Below w3.heap.size w3 w1) => hex_any (some ⟨bb, oo + p2, none⟩) 20 (c - p2) (bytesOf (bk ((l.drop p2).take 20))) w1 (by rw [bytesBk_take, bytesBk_drop]; exact ((HI.out.below hb).dropU p2).takeU 20) (by rw [bytesOf_len, bk_size, List.length_take, List.length_drop]; omega) (bytesOf_ok _) (by decide))
          have HXN : Hid (l.take i = l.take i ∧ (l.drop p1).take ml = (l.drop (i + 1)).take (j - i - 1) ∧ (l.drop p2).take 20 = (l.drop (j + 1)).take 20) := Lib.hid ⟨rfl, by rw [hml, hp1, Nat.sub_sub], by rw [hp2]⟩
          obtain ⟨xm, hxm⟩ : ∃ xm, xm = bk (l.take i) := ⟨_, rfl⟩
          obtain ⟨xn, hxn⟩ : ∃ xn, xn = bk ((l.drop p1).take ml) := ⟨_, rfl⟩
          obtain ⟨xi, hxi⟩ : ∃ xi, xi = hexS ((l.drop p2).take 20) := ⟨_, rfl⟩
          rw [← hxm] at HS1
          rw [← hxn] at HS2
          change Hid (∀ w1, Below w3.heap.size w3 w1 → Calls Tryz.prog 104 #[.slice (some ⟨bb, oo + p2, none⟩) 20 (c - p2)] w1 fun e w' => e = .returned (.string (hexS ((l.drop p2).take 20))) ∧ Below w1.heap.size w1 w') at HS3
          rw [← hxi] at HS3
          have HXM := Lib.hid hxm
          have HXV := Lib.hid hxn
          have HXI := Lib.hid hxi
          have q1 : IntKind.i64.wrap ((i : Int) + 1) = (p1 : Int) := by rw [IntWalk.i64_in _ (by omega)]; omega
          have q2 : IntKind.i64.wrap ((j : Int) + 1) = (p2 : Int) := by rw [IntWalk.i64_in _ (by omega)]; omega
          have q3 : IntKind.i64.wrap ((j : Int) + 21) = (p3 : Int) := by rw [IntWalk.i64_in _ (by omega)]; omega
          have g1a : ¬ c = p1 := by omega
          have g1b : p1 ≤ j := by omega
          have g1c : j ≤ c := by omega
          have g1d : j - p1 = ml := hml.symm
          have g2a : ¬ c = p2 := by omega
          have g2b : p2 ≤ p3 := by omega
          have g2c : p3 ≤ c := by omega
          have g2d : p3 - p2 = 20 := by omega
          have g0 : i ≤ c := by omega
          have HPJ : Hid (p1 = i + 1 ∧ p2 = j + 1 ∧ p3 = j + 21) := Lib.hid ⟨hp1, hp2, hp3⟩
          clear w1 e1 e2 e2' e3 e3' hxm hxn hxi hp1 hp2 hp3 hml hbl hlen hil hjlen hij
          refine wp_region_ph (by kernel_rfl) [18, 19] [.span 0 1, .span 0 1, .span 0 1, .span 0 1, .span 0 1, .span 0 1, .span 0 1, .span 0 1, .span 0 1, .span 0 1, .span 0 1, .span 0 1, .span 0 1, .span 0 1, .span 0 1, .span 0 1, .span 0 1, .span 0 1, .phase 0, .phase 1] [fun z9 => z9 = .slice (some ⟨bb, oo, none⟩) l.length c, fun z9 => z9 = .int .i64 (i : Int), fun z9 => z9 = .slice (some ⟨bb, oo, none⟩) i c, fun z9 => z9 = .string xm, fun z9 => z9 = .slice (some ⟨bb, oo, none⟩) l.length c, fun z9 => z9 = .int .i64 (i : Int), fun z9 => z9 = .int .i64 (p1 : Int), fun z9 => z9 = .int .i64 (j : Int), fun z9 => z9 = .slice (some ⟨bb, oo + p1, none⟩) ml (c - p1), fun z9 => z9 = .string xn, fun z9 => z9 = .slice (some ⟨bb, oo, none⟩) l.length c, fun z9 => z9 = .int .i64 (j : Int), fun z9 => z9 = .int .i64 (p2 : Int), fun z9 => z9 = .int .i64 (j : Int), fun z9 => z9 = .int .i64 (p3 : Int), fun z9 => z9 = .slice (some ⟨bb, oo + p2, none⟩) 20 (c - p2), fun z9 => z9 = .string xi, fun z9 => z9 = .agg #[.string xm, .string xn, .string xi], fun _ => True, fun _ => True] ((IEn w3 ⟨xm, xn, xi⟩)) (by kernel_rfl) (by kernel_rfl) (by kernel_rfl) (by kernel_rfl) (by kernel_rfl) (by kernel_rfl) rfl rfl ((show Below w3.heap.size w3 w3.drew from (Below.refl _ _).drew)) ?steps ?done
          case steps =>
           refine ⟨?_, ?_, ?_, ?_, ?_, ?_, ?_, ?_, ?_, ?_, ?_, ?_, ?_, ?_, ?_, ?_, ?_, ?_, ?_, ?_, trivial⟩
           · intro us au w1 k0 hlo hhi ha hd hst hI
             have q0 := slot_far (t := 0) (v := .slice (some ⟨bb, oo, none⟩) l.length c) ha (by kernel_rfl) (by kernel_rfl)
             have p0 := slot_norm q0
             clear ha hd hst
             exact StepI.pure (v := .slice (some ⟨bb, oo, none⟩) l.length c) rfl rfl (by go_simp) ⟨rfl, hI⟩
           · intro us au w1 k1 hlo hhi ha hd hst hI
             have q6 := slot_far (t := 6) (v := .int .i64 (i : Int)) ha (by kernel_rfl) (by kernel_rfl)
             have p6 := slot_norm q6
             clear ha hd hst
             exact StepI.pure (v := .int .i64 (i : Int)) rfl rfl (by go_simp) ⟨rfl, hI⟩
           · intro us au w1 k2 hlo hhi ha hd hst hI
             have e0 := hd 0 _ (by kernel_rfl) rfl
             have e1 := hd 1 _ (by kernel_rfl) rfl
             have q31 := slot_at (t := 31) 0 ha (by kernel_rfl) (by kernel_rfl) (by kernel_rfl) e0
             have p31 := slot_norm q31
             have q32 := slot_at (t := 32) 1 ha (by kernel_rfl) (by kernel_rfl) (by kernel_rfl) e1
             have p32 := slot_norm q32
             clear ha hd hst
             exact StepI.pure (v := .slice (some ⟨bb, oo, none⟩) i c) rfl rfl (by go_simp) ⟨rfl, hI⟩
           · intro us au w1 k3 hlo hhi ha hd hst hI
             have e2 := hd 2 _ (by kernel_rfl) rfl
             have q33 := slot_at (t := 33) 2 ha (by kernel_rfl) (by kernel_rfl) (by kernel_rfl) e2
             have p33 := slot_norm q33
             clear ha hd hst
             have hcv := HS1.out w1 (IEn.low hI)
             exact StepI.pure (v := .string xm) rfl rfl (by go_simp) ⟨rfl, hI⟩
           · intro us au w1 k4 hlo hhi ha hd hst hI
             have q0 := slot_far (t := 0) (v := .slice (some ⟨bb, oo, none⟩) l.length c) ha (by kernel_rfl) (by kernel_rfl)
             have p0 := slot_norm q0
             clear ha hd hst
             exact StepI.pure (v := .slice (some ⟨bb, oo, none⟩) l.length c) rfl rfl (by go_simp) ⟨rfl, hI⟩
           · intro us au w1 k5 hlo hhi ha hd hst hI
             have q6 := slot_far (t := 6) (v := .int .i64 (i : Int)) ha (by kernel_rfl) (by kernel_rfl)
             have p6 := slot_norm q6
             clear ha hd hst
             exact StepI.pure (v := .int .i64 (i : Int)) rfl rfl (by go_simp) ⟨rfl, hI⟩
           · intro us au w1 k6 hlo hhi ha hd hst hI
             have e5 := hd 5 _ (by kernel_rfl) rfl
             have q36 := slot_at (t := 36) 5 ha (by kernel_rfl) (by kernel_rfl) (by kernel_rfl) e5
             have p36 := slot_norm q36
             clear ha hd hst
             exact StepI.pure (v := .int .i64 (p1 : Int)) rfl rfl (by go_simp) ⟨rfl, hI⟩
           · intro us au w1 k7 hlo hhi ha hd hst hI
             have q7 := slot_far (t := 7) (v := .int .i64 (j : Int)) ha (by kernel_rfl) (by kernel_rfl)
             have p7 := slot_norm q7
             clear ha hd hst
             exact StepI.pure (v := .int .i64 (j : Int)) rfl rfl (by go_simp) ⟨rfl, hI⟩
           · intro us au w1 k8 hlo hhi ha hd hst hI
             have e4 := hd 4 _ (by kernel_rfl) rfl
             have e6 := hd 6 _ (by kernel_rfl) rfl
             have e7 := hd 7 _ (by kernel_rfl) rfl
             have q35 := slot_at (t := 35) 4 ha (by kernel_rfl) (by kernel_rfl) (by kernel_rfl) e4
             have p35 := slot_norm q35
             have q37 := slot_at (t := 37) 6 ha (by kernel_rfl) (by kernel_rfl) (by kernel_rfl) e6
             have p37 := slot_norm q37
             have q38 := slot_at (t := 38) 7 ha (by kernel_rfl) (by kernel_rfl) (by kernel_rfl) e7
             have p38 := slot_norm q38
             clear ha hd hst
             exact StepI.pure (v := .slice (some ⟨bb, oo + p1, none⟩) ml (c - p1)) rfl rfl (by go_simp) ⟨rfl, hI⟩
           · intro us au w1 k9 hlo hhi ha hd hst hI
             have e8 := hd 8 _ (by kernel_rfl) rfl
             have q39 := slot_at (t := 39) 8 ha (by kernel_rfl) (by kernel_rfl) (by kernel_rfl) e8
             have p39 := slot_norm q39
             clear ha hd hst
             have hcv := HS2.out w1 (IEn.low hI)
             exact StepI.pure (v := .string xn) rfl rfl (by go_simp) ⟨rfl, hI⟩
           · intro us au w1 k10 hlo hhi ha hd hst hI
             have q0 := slot_far (t := 0) (v := .slice (some ⟨bb, oo, none⟩) l.length c) ha (by kernel_rfl) (by kernel_rfl)
             have p0 := slot_norm q0
             clear ha hd hst
             exact StepI.pure (v := .slice (some ⟨bb, oo, none⟩) l.length c) rfl rfl (by go_simp) ⟨rfl, hI⟩
           · intro us au w1 k11 hlo hhi ha hd hst hI
             have q7 := slot_far (t := 7) (v := .int .i64 (j : Int)) ha (by kernel_rfl) (by kernel_rfl)
             have p7 := slot_norm q7
             clear ha hd hst
             exact StepI.pure (v := .int .i64 (j : Int)) rfl rfl (by go_simp) ⟨rfl, hI⟩
           · intro us au w1 k12 hlo hhi ha hd hst hI
             have e11 := hd 11 _ (by kernel_rfl) rfl
             have q42 := slot_at (t := 42) 11 ha (by kernel_rfl) (by kernel_rfl) (by kernel_rfl) e11
             have p42 := slot_norm q42
             clear ha hd hst
             exact StepI.pure (v := .int .i64 (p2 : Int)) rfl rfl (by go_simp) ⟨rfl, hI⟩
           · intro us au w1 k13 hlo hhi ha hd hst hI
             have q7 := slot_far (t := 7) (v := .int .i64 (j : Int)) ha (by kernel_rfl) (by kernel_rfl)
             have p7 := slot_norm q7
             clear ha hd hst
             exact StepI.pure (v := .int .i64 (j : Int)) rfl rfl (by go_simp) ⟨rfl, hI⟩
           · intro us au w1 k14 hlo hhi ha hd hst hI
             have e13 := hd 13 _ (by kernel_rfl) rfl
             have q44 := slot_at (t := 44) 13 ha (by kernel_rfl) (by kernel_rfl) (by kernel_rfl) e13
             have p44 := slot_norm q44
             clear ha hd hst
             exact StepI.pure (v := .int .i64 (p3 : Int)) rfl rfl (by go_simp) ⟨rfl, hI⟩
           · intro us au w1 k15 hlo hhi ha hd hst hI
             have e10 := hd 10 _ (by kernel_rfl) rfl
             have e12 := hd 12 _ (by kernel_rfl) rfl
             have e14 := hd 14 _ (by kernel_rfl) rfl
             have q41 := slot_at (t := 41) 10 ha (by kernel_rfl) (by kernel_rfl) (by kernel_rfl) e10
             have p41 := slot_norm q41
             have q43 := slot_at (t := 43) 12 ha (by kernel_rfl) (by kernel_rfl) (by kernel_rfl) e12
             have p43 := slot_norm q43
             have q45 := slot_at (t := 45) 14 ha (by kernel_rfl) (by kernel_rfl) (by kernel_rfl) e14
             have p45 := slot_norm q45
             clear ha hd hst
             exact StepI.pure (v := .slice (some ⟨bb, oo + p2, none⟩) 20 (c - p2)) rfl rfl (by go_simp) ⟨rfl, hI⟩
           · intro us au w1 k16 hlo hhi ha hd hst hI
             have e15 := hd 15 _ (by kernel_rfl) rfl
             have q46 := slot_at (t := 46) 15 ha (by kernel_rfl) (by kernel_rfl) (by kernel_rfl) e15
             have p46 := slot_norm q46
             clear ha hd hst
             refine StepI.call (f := 104) (args := #[.slice (some ⟨bb, oo + p2, none⟩) 20 (c - p2)]) rfl rfl (by go_simp) ?_
             refine (HS3.out w1 (IEn.low hI)).mono ?_
             rintro e w5 ⟨rfl, hb⟩
             exact ⟨_, rfl, rfl, IEn.mono hb hI⟩
           · intro us au w1 k17 hlo hhi ha hd hst hI
             have e3 := hd 3 _ (by kernel_rfl) rfl
             have e9 := hd 9 _ (by kernel_rfl) rfl
             have e16 := hd 16 _ (by kernel_rfl) rfl
             have q34 := slot_at (t := 34) 3 ha (by kernel_rfl) (by kernel_rfl) (by kernel_rfl) e3
             have p34 := slot_norm q34
             have q40 := slot_at (t := 40) 9 ha (by kernel_rfl) (by kernel_rfl) (by kernel_rfl) e9
             have p40 := slot_norm q40
             have q47 := slot_at (t := 47) 16 ha (by kernel_rfl) (by kernel_rfl) (by kernel_rfl) e16
             have p47 := slot_norm q47
             clear ha hd hst
             exact StepI.pure (v := .agg #[.string xm, .string xn, .string xi]) rfl rfl (by go_simp) ⟨rfl, hI⟩
           · intro us au w1 ha hd hst hI
             clear ha hd hst
             exact StepI.runs (v := .pointer (some ⟨w1.heap.size, 0, none⟩)) (w' := w1.alloc (.cells #[.string ⟨#[]⟩, .string ⟨#[]⟩, .string ⟨#[]⟩] 116)) rfl rfl (by go_simp) ⟨trivial, IEn.new hI⟩
           · intro us au w1 ha hd hst hI
             obtain ⟨_⟩ := hd 18 _ (by kernel_rfl) rfl
             have e17 := hd 17 _ (by kernel_rfl) rfl
             have q8 := slot_at (t := 8) 18 ha (by kernel_rfl) (by kernel_rfl) (by kernel_rfl) (Eq.refl (us 18))
             have p8 := slot_norm q8
             have q48 := slot_at (t := 48) 17 ha (by kernel_rfl) (by kernel_rfl) (by kernel_rfl) e17
             have p48 := slot_norm q48
             clear ha hd hst
             obtain ⟨hb9, g9, hv9, hg9, hc9⟩ := hI
             rw [hv9] at p8
             have k0 := hc9.cell 0 (by decide)
             have k1 := hc9.cell 1 (by decide)
             have k2 := hc9.cell 2 (by decide)
             have f0 := hc9.frozen 0
             have f1 := hc9.frozen 1
             have f2 := hc9.frozen 2
             exact StepI.stored (w' := putEnU w1 g9 xm xn xi) rfl rfl (by unfold putEnU; go_simp) ⟨trivial, IEn.put (x := ⟨xm, xn, xi⟩) hb9 hv9 hg9 hc9⟩
          case done =>
           intro us w1 hI hd
           obtain ⟨hb4, g, hv4, hg4, hc4⟩ := hI
           have HST4 := Lib.hid (HST.out.below hb4)
           have HB4 := Lib.hid hb4
           have HC4 := Lib.hid hc4
           have HG : Hid (w3.heap.size ≤ g ∧ g ≠ g1) := Lib.hid ⟨hg4, by have := HST.out.seen.lt; omega⟩
           have HZN : Hid (xn.size ≤ l.length) := Lib.hid (by rw [HXV.out, bk_size, List.length_take, List.length_drop]; omega)
           have hlook := HST4.out.seen.look xn (by have := HZN.out; omega)
           have hcnt : (namesR L).count xn.data.toList ≤ L.length := by have := List.count_le_length (a := xn.data.toList) (l := namesR L); rw [namesR_len] at this; exact this
           have hLs : L.length ≤ 8796093022000 := by have := HN.out; have := HS.out; omega
           obtain ⟨w6, hupd, hs6, hg6⟩ := HST4.out.seen.update (by rw [namesR_len]; omega) xn (by have := HZN.out; omega) (by omega)
           have HST6 : Hid (TrSt w w6 h g1 v L (xn.data.toList :: namesR L)) := Lib.hid (HST4.out.upd hg6 hs6)
           have HC6 := Lib.hid (HC4.out.grown hg6 (by intro hx; injection hx with hx; exact HG.out.2 hx.symm))
           obtain ⟨cn, hcn⟩ : ∃ cn : Nat, cn = (namesR L).count xn.data.toList := ⟨_, rfl⟩
           rw [← hcn] at hlook hupd
           have HCN := Lib.hid hcn
           have wc : IntKind.i64.wrap ((cn : Int) + 1) = (cn : Int) + 1 := IntWalk.i64_in _ (by omega)
           have k1 : w1.cell? ⟨g, 1, none⟩ = some (.string xn) := HC4.out.cell 1 (by decide)
           have k0 : w6.cell? ⟨g, 0, none⟩ = some (.string xm) := HC6.out.cell 0 (by decide)
           clear hd hb4 hg4 hc4 hs6 hg6 hcnt hcn
           simp only [putAll, hv4]
           go_simp
           clear hv4
           generalize us 18 = z18 at *
           go_upto_region 10 with (fail)
           have HNX : Hid (∀ (hx : entU l = none), treeF l0 = none) := Lib.hid (fun hx => by
            obtain ⟨f', rfl⟩ : ∃ f', f = f' + 1 := ⟨f - 1, by have := HN.out; omega⟩
            rw [HTF.out, treeU, if_neg (by intro h; rw [h] at h0; exact h0 rfl), hx])
           have HEY := Lib.hid (entU_yes HOK.out)
           have htl : xm.toList = l.take i := by rw [HXM.out, Lib.toList_data, bk_list]
           generalize hmd : l.take i = md at *
           have HMD := Lib.hid hmd
           clear hmd
           by_cases hmode : modeB md = true
           · have HMODE := Lib.hid hmode
             go_upto_block 2 with (fail)
             go_cut [] (fun wx => wx = w6)
             case first => as_aux_lemma =>
              unfold modeB at hmode
              simp only [Bool.or_eq_true, beq_iff_eq] at hmode
              rcases hmode with h | h | h | h | h <;> (rw [h] at htl; clear h HMODE HMD HEY HNX; go_wp2; go_meet; exact rfl)
             case rest =>
              obtain rfl := hcut
              go_upto_region 17 with (fail)
              have HNS := Lib.hid (fun w1 (hb : Below wc.heap.size wc w1) => named_any xn w1 (HE.out.below (by rw [HH.out]; exact (HST6.out.below hb).low)) (by have := HZN.out; omega))
              have HZS := Lib.hid (fun w1 => zero_any xi w1 (by rw [HXI.out]; unfold hexS; rw [strOfNums_size, hexL_len, bytesOf_len, bk_size, List.length_take]; omega))
              have HLK := Lib.hid (fun w1 (hb : Below wc.heap.size wc w1) => (HST6.out.below hb).seen.look xn (by have := HZN.out; omega))
              have hcnt2 : (xn.data.toList :: namesR L).count xn.data.toList = cn + 1 := by rw [List.count_cons_self, HCN.out]
              rw [hcnt2] at HLK
              generalize hpu : partU xn.data.toList = pu at *
              generalize hzu : zeroB xi = zu at *
              have HPU := Lib.hid hpu
              have HZU := Lib.hid hzu
              clear hcnt2 hpu hzu
              go_cut [96] (fun v wx => (∃ bd, v = .bool bd ∧ bd = (!pu || (zu || (decide (0 < cn) || !lastOk L ⟨xm, xn, xi⟩)))) ∧ Below wc.heap.size wc wx)
              case first => as_aux_lemma =>
               -- DONE{
               cases pu
               case false =>
                refine wp_region_ph (by kernel_rfl) [] [.span 0 0, .span 0 0, .span 0 0, .span 0 0, .span 0 0, .span 0 0, .span 0 0, .span 0 0, .span 0 0, .span 0 0, .span 0 0, .span 0 0, .span 0 0, .span 0 0, .span 0 0, .span 0 0, .span 0 0, .span 0 0, .span 0 0, .span 0 0, .span 0 0, .span 0 0, .span 0 0, .span 0 0, .span 0 0, .span 0 0, .span 0 0, .span 0 0, .span 0 0, .span 0 0, .span 0 0, .span 0 0, .span 0 0, .span 0 0, .span 0 0] [fun z9 => z9 = .pointer (some ⟨g, 1, none⟩), fun z9 => z9 = .string xn, fun z9 => z9 = .bool false, fun z9 => z9 = .bool true, fun z9 => z9 = .bool true, fun z9 => z9 = undef, fun z9 => z9 = undef, fun z9 => z9 = undef, fun z9 => z9 = .bool true, fun z9 => z9 = .bool true, fun z9 => z9 = undef, fun z9 => z9 = undef, fun z9 => z9 = undef, fun z9 => z9 = undef, fun z9 => z9 = undef, fun z9 => z9 = .bool true, fun z9 => z9 = .bool true, fun z9 => z9 = undef, fun z9 => z9 = undef, fun z9 => z9 = undef, fun z9 => z9 = undef, fun z9 => z9 = undef, fun z9 => z9 = undef, fun z9 => z9 = undef, fun z9 => z9 = undef, fun z9 => z9 = undef, fun z9 => z9 = undef, fun z9 => z9 = undef, fun z9 => z9 = undef, fun z9 => z9 = undef, fun z9 => z9 = undef, fun z9 => z9 = undef, fun z9 => z9 = undef, fun z9 => z9 = undef, fun z9 => z9 = .bool true] ((fun _ w => Below wc.heap.size wc w)) (by kernel_rfl) (by kernel_rfl) (by kernel_rfl) (by kernel_rfl) (by kernel_rfl) (by kernel_rfl) rfl rfl ((Below.refl _ _).drew) ?steps ?done
                case steps =>
                 refine ⟨?_, ?_, ?_, ?_, ?_, ?_, ?_, ?_, ?_, ?_, ?_, ?_, ?_, ?_, ?_, ?_, ?_, ?_, ?_, ?_, ?_, ?_, ?_, ?_, ?_, ?_, ?_, ?_, ?_, ?_, ?_, ?_, ?_, ?_, ?_, trivial⟩
                 · intro us au w1 k0 hlo hhi ha hd hst hI
                   obtain rfl : k0 = 0 := by omega
                   have q8 := slot_far (t := 8) (v := .pointer (some ⟨g, 0, none⟩)) ha (by kernel_rfl) (by kernel_rfl)
                   have p8 := slot_norm q8
                   clear ha hd hst
                   exact StepI.pure (v := .pointer (some ⟨g, 1, none⟩)) rfl rfl (by go_simp) ⟨rfl, hI⟩
                 · intro us au w1 k1 hlo hhi ha hd hst hI
                   obtain rfl : k1 = 0 := by omega
                   have e0 := hd 0 _ (by kernel_rfl) rfl
                   have q62 := slot_at (t := 62) 0 ha (by kernel_rfl) (by kernel_rfl) (by kernel_rfl) e0
                   have p62 := slot_norm q62
                   clear ha hd hst
                   have kk : w1.cell? ⟨g, 1, none⟩ = some (.string xn) := (HC6.out.below hI HC6.out.blk).cell 1 (by decide)
                   exact StepI.pure (v := .string xn) rfl rfl (by go_simp) ⟨rfl, hI⟩
                 · intro us au w1 k2 hlo hhi ha hd hst hI
                   obtain rfl : k2 = 0 := by omega
                   have e1 := hd 1 _ (by kernel_rfl) rfl
                   have q63 := slot_at (t := 63) 1 ha (by kernel_rfl) (by kernel_rfl) (by kernel_rfl) e1
                   have p63 := slot_norm q63
                   clear ha hd hst
                   refine StepI.call (f := 105) (args := #[.string xn]) rfl rfl (by go_simp) ?_
                   refine (HNS.out w1 hI).mono ?_
                   rintro e w5 ⟨rfl, hb⟩
                   exact ⟨_, rfl, rfl, Below.trans hI (hb.mono (Below.size hI))⟩
                 · intro us au w1 k3 hlo hhi ha hd hst hI
                   obtain rfl : k3 = 0 := by omega
                   have e2 := hd 2 _ (by kernel_rfl) rfl
                   have q64 := slot_at (t := 64) 2 ha (by kernel_rfl) (by kernel_rfl) (by kernel_rfl) e2
                   have p64 := slot_norm q64
                   clear ha hd hst
                   exact StepI.pure (v := .bool true) rfl rfl (by go_simp) ⟨rfl, hI⟩
                 · intro us au w1 k4 hlo hhi ha hd hst hI
                   obtain rfl : k4 = 0 := by omega
                   have e3 := hd 3 _ (by kernel_rfl) rfl
                   have q65 := slot_at (t := 65) 3 ha (by kernel_rfl) (by kernel_rfl) (by kernel_rfl) e3
                   have p65 := slot_norm q65
                   clear ha hd hst
                   exact StepI.pure (v := .bool true) rfl rfl (by go_simp) ⟨rfl, hI⟩
                 · intro us au w1 k5 hlo hhi ha hd hst hI
                   obtain rfl : k5 = 0 := by omega
                   have e4 := hd 4 _ (by kernel_rfl) rfl
                   have hg := slot_at (t := 66) 4 ha (by kernel_rfl) (by kernel_rfl) (by kernel_rfl) e4
                   exact StepI.skip rfl (unwanted_at rfl rfl hg rfl) ⟨rfl, hI⟩
                 · intro us au w1 k6 hlo hhi ha hd hst hI
                   obtain rfl : k6 = 0 := by omega
                   have e4 := hd 4 _ (by kernel_rfl) rfl
                   have hg := slot_at (t := 66) 4 ha (by kernel_rfl) (by kernel_rfl) (by kernel_rfl) e4
                   exact StepI.skip rfl (unwanted_at rfl rfl hg rfl) ⟨rfl, hI⟩
                 · intro us au w1 k7 hlo hhi ha hd hst hI
                   obtain rfl : k7 = 0 := by omega
                   have e4 := hd 4 _ (by kernel_rfl) rfl
                   have hg := slot_at (t := 66) 4 ha (by kernel_rfl) (by kernel_rfl) (by kernel_rfl) e4
                   exact StepI.skip rfl (unwanted_at rfl rfl hg rfl) ⟨rfl, hI⟩
                 · intro us au w1 k8 hlo hhi ha hd hst hI
                   obtain rfl : k8 = 0 := by omega
                   have e4 := hd 4 _ (by kernel_rfl) rfl
                   have e7 := hd 7 _ (by kernel_rfl) rfl
                   have q66 := slot_at (t := 66) 4 ha (by kernel_rfl) (by kernel_rfl) (by kernel_rfl) e4
                   have p66 := slot_norm q66
                   have q69 := slot_at (t := 69) 7 ha (by kernel_rfl) (by kernel_rfl) (by kernel_rfl) e7
                   have p69 := slot_norm q69
                   clear ha hd hst
                   exact StepI.pure (v := .bool true) rfl rfl (by go_simp) ⟨rfl, hI⟩
                 · intro us au w1 k9 hlo hhi ha hd hst hI
                   obtain rfl : k9 = 0 := by omega
                   have e8 := hd 8 _ (by kernel_rfl) rfl
                   have q70 := slot_at (t := 70) 8 ha (by kernel_rfl) (by kernel_rfl) (by kernel_rfl) e8
                   have p70 := slot_norm q70
                   clear ha hd hst
                   exact StepI.pure (v := .bool true) rfl rfl (by go_simp) ⟨rfl, hI⟩
                 · intro us au w1 k10 hlo hhi ha hd hst hI
                   obtain rfl : k10 = 0 := by omega
                   have e9 := hd 9 _ (by kernel_rfl) rfl
                   have hg := slot_at (t := 71) 9 ha (by kernel_rfl) (by kernel_rfl) (by kernel_rfl) e9
                   exact StepI.skip rfl (unwanted_at rfl rfl hg rfl) ⟨rfl, hI⟩
                 · intro us au w1 k11 hlo hhi ha hd hst hI
                   obtain rfl : k11 = 0 := by omega
                   have e9 := hd 9 _ (by kernel_rfl) rfl
                   have hg := slot_at (t := 71) 9 ha (by kernel_rfl) (by kernel_rfl) (by kernel_rfl) e9
                   exact StepI.skip rfl (unwanted_at rfl rfl hg rfl) ⟨rfl, hI⟩
                 · intro us au w1 k12 hlo hhi ha hd hst hI
                   obtain rfl : k12 = 0 := by omega
                   have e9 := hd 9 _ (by kernel_rfl) rfl
                   have hg := slot_at (t := 71) 9 ha (by kernel_rfl) (by kernel_rfl) (by kernel_rfl) e9
                   exact StepI.skip rfl (unwanted_at rfl rfl hg rfl) ⟨rfl, hI⟩
                 · intro us au w1 k13 hlo hhi ha hd hst hI
                   obtain rfl : k13 = 0 := by omega
                   have e9 := hd 9 _ (by kernel_rfl) rfl
                   have hg := slot_at (t := 71) 9 ha (by kernel_rfl) (by kernel_rfl) (by kernel_rfl) e9
                   exact StepI.skip rfl (unwanted_at rfl rfl hg rfl) ⟨rfl, hI⟩
                 · intro us au w1 k14 hlo hhi ha hd hst hI
                   obtain rfl : k14 = 0 := by omega
                   have e9 := hd 9 _ (by kernel_rfl) rfl
                   have hg := slot_at (t := 71) 9 ha (by kernel_rfl) (by kernel_rfl) (by kernel_rfl) e9
                   exact StepI.skip rfl (unwanted_at rfl rfl hg rfl) ⟨rfl, hI⟩
                 · intro us au w1 k15 hlo hhi ha hd hst hI
                   obtain rfl : k15 = 0 := by omega
                   have e9 := hd 9 _ (by kernel_rfl) rfl
                   have e14 := hd 14 _ (by kernel_rfl) rfl
                   have q71 := slot_at (t := 71) 9 ha (by kernel_rfl) (by kernel_rfl) (by kernel_rfl) e9
                   have p71 := slot_norm q71
                   have q76 := slot_at (t := 76) 14 ha (by kernel_rfl) (by kernel_rfl) (by kernel_rfl) e14
                   have p76 := slot_norm q76
                   clear ha hd hst
                   exact StepI.pure (v := .bool true) rfl rfl (by go_simp) ⟨rfl, hI⟩
                 · intro us au w1 k16 hlo hhi ha hd hst hI
                   obtain rfl : k16 = 0 := by omega
                   have e15 := hd 15 _ (by kernel_rfl) rfl
                   have q77 := slot_at (t := 77) 15 ha (by kernel_rfl) (by kernel_rfl) (by kernel_rfl) e15
                   have p77 := slot_norm q77
                   clear ha hd hst
                   exact StepI.pure (v := .bool true) rfl rfl (by go_simp) ⟨rfl, hI⟩
                 · intro us au w1 k17 hlo hhi ha hd hst hI
                   obtain rfl : k17 = 0 := by omega
                   have e16 := hd 16 _ (by kernel_rfl) rfl
                   have hg := slot_at (t := 78) 16 ha (by kernel_rfl) (by kernel_rfl) (by kernel_rfl) e16
                   exact StepI.skip rfl (unwanted_at rfl rfl hg rfl) ⟨rfl, hI⟩
                 · intro us au w1 k18 hlo hhi ha hd hst hI
                   obtain rfl : k18 = 0 := by omega
                   have e16 := hd 16 _ (by kernel_rfl) rfl
                   have hg := slot_at (t := 78) 16 ha (by kernel_rfl) (by kernel_rfl) (by kernel_rfl) e16
                   exact StepI.skip rfl (unwanted_at rfl rfl hg rfl) ⟨rfl, hI⟩
                 · intro us au w1 k19 hlo hhi ha hd hst hI
                   obtain rfl : k19 = 0 := by omega
                   have e16 := hd 16 _ (by kernel_rfl) rfl
                   have hg := slot_at (t := 78) 16 ha (by kernel_rfl) (by kernel_rfl) (by kernel_rfl) e16
                   exact StepI.skip rfl (unwanted_at rfl rfl hg rfl) ⟨rfl, hI⟩
                 · intro us au w1 k20 hlo hhi ha hd hst hI
                   obtain rfl : k20 = 0 := by omega
                   have e16 := hd 16 _ (by kernel_rfl) rfl
                   have hg := slot_at (t := 78) 16 ha (by kernel_rfl) (by kernel_rfl) (by kernel_rfl) e16
                   exact StepI.skip rfl (unwanted_at rfl rfl hg rfl) ⟨rfl, hI⟩
                 · intro us au w1 k21 hlo hhi ha hd hst hI
                   obtain rfl : k21 = 0 := by omega
                   have e16 := hd 16 _ (by kernel_rfl) rfl
                   have hg := slot_at (t := 78) 16 ha (by kernel_rfl) (by kernel_rfl) (by kernel_rfl) e16
                   exact StepI.skip rfl (unwanted_at rfl rfl hg rfl) ⟨rfl, hI⟩
                 · intro us au w1 k22 hlo hhi ha hd hst hI
                   obtain rfl : k22 = 0 := by omega
                   have e21 := hd 21 _ (by kernel_rfl) rfl
                   have hg := slot_at (t := 83) 21 ha (by kernel_rfl) (by kernel_rfl) (by kernel_rfl) e21
                   exact StepI.skip rfl (unwanted_undef rfl rfl hg) ⟨rfl, hI⟩
                 · intro us au w1 k23 hlo hhi ha hd hst hI
                   obtain rfl : k23 = 0 := by omega
                   have e21 := hd 21 _ (by kernel_rfl) rfl
                   have hg := slot_at (t := 83) 21 ha (by kernel_rfl) (by kernel_rfl) (by kernel_rfl) e21
                   exact StepI.skip rfl (unwanted_undef rfl rfl hg) ⟨rfl, hI⟩
                 · intro us au w1 k24 hlo hhi ha hd hst hI
                   obtain rfl : k24 = 0 := by omega
                   have e21 := hd 21 _ (by kernel_rfl) rfl
                   have hg := slot_at (t := 83) 21 ha (by kernel_rfl) (by kernel_rfl) (by kernel_rfl) e21
                   exact StepI.skip rfl (unwanted_undef rfl rfl hg) ⟨rfl, hI⟩
                 · intro us au w1 k25 hlo hhi ha hd hst hI
                   obtain rfl : k25 = 0 := by omega
                   have e21 := hd 21 _ (by kernel_rfl) rfl
                   have hg := slot_at (t := 83) 21 ha (by kernel_rfl) (by kernel_rfl) (by kernel_rfl) e21
                   exact StepI.skip rfl (unwanted_undef rfl rfl hg) ⟨rfl, hI⟩
                 · intro us au w1 k26 hlo hhi ha hd hst hI
                   obtain rfl : k26 = 0 := by omega
                   have e21 := hd 21 _ (by kernel_rfl) rfl
                   have hg := slot_at (t := 83) 21 ha (by kernel_rfl) (by kernel_rfl) (by kernel_rfl) e21
                   exact StepI.skip rfl (unwanted_undef rfl rfl hg) ⟨rfl, hI⟩
                 · intro us au w1 k27 hlo hhi ha hd hst hI
                   obtain rfl : k27 = 0 := by omega
                   have e21 := hd 21 _ (by kernel_rfl) rfl
                   have hg := slot_at (t := 83) 21 ha (by kernel_rfl) (by kernel_rfl) (by kernel_rfl) e21
                   exact StepI.skip rfl (unwanted_undef rfl rfl hg) ⟨rfl, hI⟩
                 · intro us au w1 k28 hlo hhi ha hd hst hI
                   obtain rfl : k28 = 0 := by omega
                   have e21 := hd 21 _ (by kernel_rfl) rfl
                   have hg := slot_at (t := 83) 21 ha (by kernel_rfl) (by kernel_rfl) (by kernel_rfl) e21
                   exact StepI.skip rfl (unwanted_undef rfl rfl hg) ⟨rfl, hI⟩
                 · intro us au w1 k29 hlo hhi ha hd hst hI
                   obtain rfl : k29 = 0 := by omega
                   have e21 := hd 21 _ (by kernel_rfl) rfl
                   have hg := slot_at (t := 83) 21 ha (by kernel_rfl) (by kernel_rfl) (by kernel_rfl) e21
                   exact StepI.skip rfl (unwanted_undef rfl rfl hg) ⟨rfl, hI⟩
                 · intro us au w1 k30 hlo hhi ha hd hst hI
                   obtain rfl : k30 = 0 := by omega
                   have e21 := hd 21 _ (by kernel_rfl) rfl
                   have hg := slot_at (t := 83) 21 ha (by kernel_rfl) (by kernel_rfl) (by kernel_rfl) e21
                   exact StepI.skip rfl (unwanted_undef rfl rfl hg) ⟨rfl, hI⟩
                 · intro us au w1 k31 hlo hhi ha hd hst hI
                   obtain rfl : k31 = 0 := by omega
                   have e21 := hd 21 _ (by kernel_rfl) rfl
                   have hg := slot_at (t := 83) 21 ha (by kernel_rfl) (by kernel_rfl) (by kernel_rfl) e21
                   exact StepI.skip rfl (unwanted_undef rfl rfl hg) ⟨rfl, hI⟩
                 · intro us au w1 k32 hlo hhi ha hd hst hI
                   obtain rfl : k32 = 0 := by omega
                   have e21 := hd 21 _ (by kernel_rfl) rfl
                   have hg := slot_at (t := 83) 21 ha (by kernel_rfl) (by kernel_rfl) (by kernel_rfl) e21
                   exact StepI.skip rfl (unwanted_undef rfl rfl hg) ⟨rfl, hI⟩
                 · intro us au w1 k33 hlo hhi ha hd hst hI
                   obtain rfl : k33 = 0 := by omega
                   have e16 := hd 16 _ (by kernel_rfl) rfl
                   have hg := slot_at (t := 78) 16 ha (by kernel_rfl) (by kernel_rfl) (by kernel_rfl) e16
                   exact StepI.skip rfl (unwanted_at rfl rfl hg rfl) ⟨rfl, hI⟩
                 · intro us au w1 k34 hlo hhi ha hd hst hI
                   obtain rfl : k34 = 0 := by omega
                   have e16 := hd 16 _ (by kernel_rfl) rfl
                   have e33 := hd 33 _ (by kernel_rfl) rfl
                   have q78 := slot_at (t := 78) 16 ha (by kernel_rfl) (by kernel_rfl) (by kernel_rfl) e16
                   have p78 := slot_norm q78
                   have q95 := slot_at (t := 95) 33 ha (by kernel_rfl) (by kernel_rfl) (by kernel_rfl) e33
                   have p95 := slot_norm q95
                   clear ha hd hst
                   exact StepI.pure (v := .bool true) rfl rfl (by go_simp) ⟨rfl, hI⟩
                case done =>
                 intro us w1 hI hd
                 have e34 := hd 34 _ (by decide) rfl
                 have HBQ := Lib.hid hI
                 clear hd hI
                 simp only [putAll]
                 go_simp
                 go_wp2
                 go_meet
                 exact ⟨⟨_, rfl, by simp⟩, HBQ.out⟩
               case true =>
                cases zu
                case true =>
                 refine wp_region_ph (by kernel_rfl) [] [.span 0 0, .span 0 0, .span 0 0, .span 0 0, .span 0 0, .span 0 0, .span 0 0, .span 0 0, .span 0 0, .span 0 0, .span 0 0, .span 0 0, .span 0 0, .span 0 0, .span 0 0, .span 0 0, .span 0 0, .span 0 0, .span 0 0, .span 0 0, .span 0 0, .span 0 0, .span 0 0, .span 0 0, .span 0 0, .span 0 0, .span 0 0, .span 0 0, .span 0 0, .span 0 0, .span 0 0, .span 0 0, .span 0 0, .span 0 0, .span 0 0] [fun z9 => z9 = .pointer (some ⟨g, 1, none⟩), fun z9 => z9 = .string xn, fun z9 => z9 = .bool true, fun z9 => z9 = .bool false, fun z9 => z9 = .bool false, fun z9 => z9 = .pointer (some ⟨g, 2, none⟩), fun z9 => z9 = .string xi, fun z9 => z9 = .bool true, fun z9 => z9 = .bool true, fun z9 => z9 = .bool true, fun z9 => z9 = undef, fun z9 => z9 = undef, fun z9 => z9 = undef, fun z9 => z9 = undef, fun z9 => z9 = undef, fun z9 => z9 = .bool true, fun z9 => z9 = .bool true, fun z9 => z9 = undef, fun z9 => z9 = undef, fun z9 => z9 = undef, fun z9 => z9 = undef, fun z9 => z9 = undef, fun z9 => z9 = undef, fun z9 => z9 = undef, fun z9 => z9 = undef, fun z9 => z9 = undef, fun z9 => z9 = undef, fun z9 => z9 = undef, fun z9 => z9 = undef, fun z9 => z9 = undef, fun z9 => z9 = undef, fun z9 => z9 = undef, fun z9 => z9 = undef, fun z9 => z9 = undef, fun z9 => z9 = .bool true] ((fun _ w => Below wc.heap.size wc w)) (by kernel_rfl) (by kernel_rfl) (by kernel_rfl) (by kernel_rfl) (by kernel_rfl) (by kernel_rfl) rfl rfl ((Below.refl _ _).drew) ?steps ?done
                 case steps =>
                  refine ⟨?_, ?_, ?_, ?_, ?_, ?_, ?_, ?_, ?_, ?_, ?_, ?_, ?_, ?_, ?_, ?_, ?_, ?_, ?_, ?_, ?_, ?_, ?_, ?_, ?_, ?_, ?_, ?_, ?_, ?_, ?_, ?_, ?_, ?_, ?_, trivial⟩
                  · intro us au w1 k0 hlo hhi ha hd hst hI
                    obtain rfl : k0 = 0 := by omega
                    have q8 := slot_far (t := 8) (v := .pointer (some ⟨g, 0, none⟩)) ha (by kernel_rfl) (by kernel_rfl)
                    have p8 := slot_norm q8
                    clear ha hd hst
                    exact StepI.pure (v := .pointer (some ⟨g, 1, none⟩)) rfl rfl (by go_simp) ⟨rfl, hI⟩
                  · intro us au w1 k1 hlo hhi ha hd hst hI
                    obtain rfl : k1 = 0 := by omega
                    have e0 := hd 0 _ (by kernel_rfl) rfl
                    have q62 := slot_at (t := 62) 0 ha (by kernel_rfl) (by kernel_rfl) (by kernel_rfl) e0
                    have p62 := slot_norm q62
                    clear ha hd hst
                    have kk : w1.cell? ⟨g, 1, none⟩ = some (.string xn) := (HC6.out.below hI HC6.out.blk).cell 1 (by decide)
                    exact StepI.pure (v := .string xn) rfl rfl (by go_simp) ⟨rfl, hI⟩
                  · intro us au w1 k2 hlo hhi ha hd hst hI
                    obtain rfl : k2 = 0 := by omega
                    have e1 := hd 1 _ (by kernel_rfl) rfl
                    have q63 := slot_at (t := 63) 1 ha (by kernel_rfl) (by kernel_rfl) (by kernel_rfl) e1
                    have p63 := slot_norm q63
                    clear ha hd hst
                    refine StepI.call (f := 105) (args := #[.string xn]) rfl rfl (by go_simp) ?_
                    refine (HNS.out w1 hI).mono ?_
                    rintro e w5 ⟨rfl, hb⟩
                    exact ⟨_, rfl, rfl, Below.trans hI (hb.mono (Below.size hI))⟩
                  · intro us au w1 k3 hlo hhi ha hd hst hI
                    obtain rfl : k3 = 0 := by omega
                    have e2 := hd 2 _ (by kernel_rfl) rfl
                    have q64 := slot_at (t := 64) 2 ha (by kernel_rfl) (by kernel_rfl) (by kernel_rfl) e2
                    have p64 := slot_norm q64
                    clear ha hd hst
                    exact StepI.pure (v := .bool false) rfl rfl (by go_simp) ⟨rfl, hI⟩
                  · intro us au w1 k4 hlo hhi ha hd hst hI
                    obtain rfl : k4 = 0 := by omega
                    have e3 := hd 3 _ (by kernel_rfl) rfl
                    have q65 := slot_at (t := 65) 3 ha (by kernel_rfl) (by kernel_rfl) (by kernel_rfl) e3
                    have p65 := slot_norm q65
                    clear ha hd hst
                    exact StepI.pure (v := .bool false) rfl rfl (by go_simp) ⟨rfl, hI⟩
                  · intro us au w1 k5 hlo hhi ha hd hst hI
                    obtain rfl : k5 = 0 := by omega
                    have e4 := hd 4 _ (by kernel_rfl) rfl
                    have q8 := slot_far (t := 8) (v := .pointer (some ⟨g, 0, none⟩)) ha (by kernel_rfl) (by kernel_rfl)
                    have p8 := slot_norm q8
                    have hg := slot_at (t := 66) 4 ha (by kernel_rfl) (by kernel_rfl) (by kernel_rfl) e4
                    clear ha hd hst
                    exact StepI.pure (v := .pointer (some ⟨g, 2, none⟩)) rfl (wanted_at rfl rfl hg) (by go_simp) ⟨rfl, hI⟩
                  · intro us au w1 k6 hlo hhi ha hd hst hI
                    obtain rfl : k6 = 0 := by omega
                    have e5 := hd 5 _ (by kernel_rfl) rfl
                    have e4 := hd 4 _ (by kernel_rfl) rfl
                    have q67 := slot_at (t := 67) 5 ha (by kernel_rfl) (by kernel_rfl) (by kernel_rfl) e5
                    have p67 := slot_norm q67
                    have hg := slot_at (t := 66) 4 ha (by kernel_rfl) (by kernel_rfl) (by kernel_rfl) e4
                    clear ha hd hst
                    have kk : w1.cell? ⟨g, 2, none⟩ = some (.string xi) := (HC6.out.below hI HC6.out.blk).cell 2 (by decide)
                    exact StepI.pure (v := .string xi) rfl (wanted_at rfl rfl hg) (by go_simp) ⟨rfl, hI⟩
                  · intro us au w1 k7 hlo hhi ha hd hst hI
                    obtain rfl : k7 = 0 := by omega
                    have e6 := hd 6 _ (by kernel_rfl) rfl
                    have e4 := hd 4 _ (by kernel_rfl) rfl
                    have q68 := slot_at (t := 68) 6 ha (by kernel_rfl) (by kernel_rfl) (by kernel_rfl) e6
                    have p68 := slot_norm q68
                    have hg := slot_at (t := 66) 4 ha (by kernel_rfl) (by kernel_rfl) (by kernel_rfl) e4
                    clear ha hd hst
                    refine StepI.call (f := 106) (args := #[.string xi]) rfl (wanted_at rfl rfl hg) (by go_simp) ?_
                    refine (HZS.out w1).mono ?_
                    rintro e w5 ⟨rfl, hb⟩
                    exact ⟨_, rfl, rfl, Below.trans hI (hb.mono (Below.size hI))⟩
                  · intro us au w1 k8 hlo hhi ha hd hst hI
                    obtain rfl : k8 = 0 := by omega
                    have e4 := hd 4 _ (by kernel_rfl) rfl
                    have e7 := hd 7 _ (by kernel_rfl) rfl
                    have q66 := slot_at (t := 66) 4 ha (by kernel_rfl) (by kernel_rfl) (by kernel_rfl) e4
                    have p66 := slot_norm q66
                    have q69 := slot_at (t := 69) 7 ha (by kernel_rfl) (by kernel_rfl) (by kernel_rfl) e7
                    have p69 := slot_norm q69
                    clear ha hd hst
                    exact StepI.pure (v := .bool true) rfl rfl (by go_simp) ⟨rfl, hI⟩
                  · intro us au w1 k9 hlo hhi ha hd hst hI
                    obtain rfl : k9 = 0 := by omega
                    have e8 := hd 8 _ (by kernel_rfl) rfl
                    have q70 := slot_at (t := 70) 8 ha (by kernel_rfl) (by kernel_rfl) (by kernel_rfl) e8
                    have p70 := slot_norm q70
                    clear ha hd hst
                    exact StepI.pure (v := .bool true) rfl rfl (by go_simp) ⟨rfl, hI⟩
                  · intro us au w1 k10 hlo hhi ha hd hst hI
                    obtain rfl : k10 = 0 := by omega
                    have e9 := hd 9 _ (by kernel_rfl) rfl
                    have hg := slot_at (t := 71) 9 ha (by kernel_rfl) (by kernel_rfl) (by kernel_rfl) e9
                    exact StepI.skip rfl (unwanted_at rfl rfl hg rfl) ⟨rfl, hI⟩
                  · intro us au w1 k11 hlo hhi ha hd hst hI
                    obtain rfl : k11 = 0 := by omega
                    have e9 := hd 9 _ (by kernel_rfl) rfl
                    have hg := slot_at (t := 71) 9 ha (by kernel_rfl) (by kernel_rfl) (by kernel_rfl) e9
                    exact StepI.skip rfl (unwanted_at rfl rfl hg rfl) ⟨rfl, hI⟩
                  · intro us au w1 k12 hlo hhi ha hd hst hI
                    obtain rfl : k12 = 0 := by omega
                    have e9 := hd 9 _ (by kernel_rfl) rfl
                    have hg := slot_at (t := 71) 9 ha (by kernel_rfl) (by kernel_rfl) (by kernel_rfl) e9
                    exact StepI.skip rfl (unwanted_at rfl rfl hg rfl) ⟨rfl, hI⟩
                  · intro us au w1 k13 hlo hhi ha hd hst hI
                    obtain rfl : k13 = 0 := by omega
                    have e9 := hd 9 _ (by kernel_rfl) rfl
                    have hg := slot_at (t := 71) 9 ha (by kernel_rfl) (by kernel_rfl) (by kernel_rfl) e9
                    exact StepI.skip rfl (unwanted_at rfl rfl hg rfl) ⟨rfl, hI⟩
                  · intro us au w1 k14 hlo hhi ha hd hst hI
                    obtain rfl : k14 = 0 := by omega
                    have e9 := hd 9 _ (by kernel_rfl) rfl
                    have hg := slot_at (t := 71) 9 ha (by kernel_rfl) (by kernel_rfl) (by kernel_rfl) e9
                    exact StepI.skip rfl (unwanted_at rfl rfl hg rfl) ⟨rfl, hI⟩
                  · intro us au w1 k15 hlo hhi ha hd hst hI
                    obtain rfl : k15 = 0 := by omega
                    have e9 := hd 9 _ (by kernel_rfl) rfl
                    have e14 := hd 14 _ (by kernel_rfl) rfl
                    have q71 := slot_at (t := 71) 9 ha (by kernel_rfl) (by kernel_rfl) (by kernel_rfl) e9
                    have p71 := slot_norm q71
                    have q76 := slot_at (t := 76) 14 ha (by kernel_rfl) (by kernel_rfl) (by kernel_rfl) e14
                    have p76 := slot_norm q76
                    clear ha hd hst
                    exact StepI.pure (v := .bool true) rfl rfl (by go_simp) ⟨rfl, hI⟩
                  · intro us au w1 k16 hlo hhi ha hd hst hI
                    obtain rfl : k16 = 0 := by omega
                    have e15 := hd 15 _ (by kernel_rfl) rfl
                    have q77 := slot_at (t := 77) 15 ha (by kernel_rfl) (by kernel_rfl) (by kernel_rfl) e15
                    have p77 := slot_norm q77
                    clear ha hd hst
                    exact StepI.pure (v := .bool true) rfl rfl (by go_simp) ⟨rfl, hI⟩
                  · intro us au w1 k17 hlo hhi ha hd hst hI
                    obtain rfl : k17 = 0 := by omega
                    have e16 := hd 16 _ (by kernel_rfl) rfl
                    have hg := slot_at (t := 78) 16 ha (by kernel_rfl) (by kernel_rfl) (by kernel_rfl) e16
                    exact StepI.skip rfl (unwanted_at rfl rfl hg rfl) ⟨rfl, hI⟩
                  · intro us au w1 k18 hlo hhi ha hd hst hI
                    obtain rfl : k18 = 0 := by omega
                    have e16 := hd 16 _ (by kernel_rfl) rfl
                    have hg := slot_at (t := 78) 16 ha (by kernel_rfl) (by kernel_rfl) (by kernel_rfl) e16
                    exact StepI.skip rfl (unwanted_at rfl rfl hg rfl) ⟨rfl, hI⟩
                  · intro us au w1 k19 hlo hhi ha hd hst hI
                    obtain rfl : k19 = 0 := by omega
                    have e16 := hd 16 _ (by kernel_rfl) rfl
                    have hg := slot_at (t := 78) 16 ha (by kernel_rfl) (by kernel_rfl) (by kernel_rfl) e16
                    exact StepI.skip rfl (unwanted_at rfl rfl hg rfl) ⟨rfl, hI⟩
                  · intro us au w1 k20 hlo hhi ha hd hst hI
                    obtain rfl : k20 = 0 := by omega
                    have e16 := hd 16 _ (by kernel_rfl) rfl
                    have hg := slot_at (t := 78) 16 ha (by kernel_rfl) (by kernel_rfl) (by kernel_rfl) e16
                    exact StepI.skip rfl (unwanted_at rfl rfl hg rfl) ⟨rfl, hI⟩
                  · intro us au w1 k21 hlo hhi ha hd hst hI
                    obtain rfl : k21 = 0 := by omega
                    have e16 := hd 16 _ (by kernel_rfl) rfl
                    have hg := slot_at (t := 78) 16 ha (by kernel_rfl) (by kernel_rfl) (by kernel_rfl) e16
                    exact StepI.skip rfl (unwanted_at rfl rfl hg rfl) ⟨rfl, hI⟩
                  · intro us au w1 k22 hlo hhi ha hd hst hI
                    obtain rfl : k22 = 0 := by omega
                    have e21 := hd 21 _ (by kernel_rfl) rfl
                    have hg := slot_at (t := 83) 21 ha (by kernel_rfl) (by kernel_rfl) (by kernel_rfl) e21
                    exact StepI.skip rfl (unwanted_undef rfl rfl hg) ⟨rfl, hI⟩
                  · intro us au w1 k23 hlo hhi ha hd hst hI
                    obtain rfl : k23 = 0 := by omega
                    have e21 := hd 21 _ (by kernel_rfl) rfl
                    have hg := slot_at (t := 83) 21 ha (by kernel_rfl) (by kernel_rfl) (by kernel_rfl) e21
                    exact StepI.skip rfl (unwanted_undef rfl rfl hg) ⟨rfl, hI⟩
                  · intro us au w1 k24 hlo hhi ha hd hst hI
                    obtain rfl : k24 = 0 := by omega
                    have e21 := hd 21 _ (by kernel_rfl) rfl
                    have hg := slot_at (t := 83) 21 ha (by kernel_rfl) (by kernel_rfl) (by kernel_rfl) e21
                    exact StepI.skip rfl (unwanted_undef rfl rfl hg) ⟨rfl, hI⟩
                  · intro us au w1 k25 hlo hhi ha hd hst hI
                    obtain rfl : k25 = 0 := by omega
                    have e21 := hd 21 _ (by kernel_rfl) rfl
                    have hg := slot_at (t := 83) 21 ha (by kernel_rfl) (by kernel_rfl) (by kernel_rfl) e21
                    exact StepI.skip rfl (unwanted_undef rfl rfl hg) ⟨rfl, hI⟩
                  · intro us au w1 k26 hlo hhi ha hd hst hI
                    obtain rfl : k26 = 0 := by omega
                    have e21 := hd 21 _ (by kernel_rfl) rfl
                    have hg := slot_at (t := 83) 21 ha (by kernel_rfl) (by kernel_rfl) (by kernel_rfl) e21
                    exact StepI.skip rfl (unwanted_undef rfl rfl hg) ⟨rfl, hI⟩
                  · intro us au w1 k27 hlo hhi ha hd hst hI
                    obtain rfl : k27 = 0 := by omega
                    have e21 := hd 21 _ (by kernel_rfl) rfl
                    have hg := slot_at (t := 83) 21 ha (by kernel_rfl) (by kernel_rfl) (by kernel_rfl) e21
                    exact StepI.skip rfl (unwanted_undef rfl rfl hg) ⟨rfl, hI⟩
                  · intro us au w1 k28 hlo hhi ha hd hst hI
                    obtain rfl : k28 = 0 := by omega
                    have e21 := hd 21 _ (by kernel_rfl) rfl
                    have hg := slot_at (t := 83) 21 ha (by kernel_rfl) (by kernel_rfl) (by kernel_rfl) e21
                    exact StepI.skip rfl (unwanted_undef rfl rfl hg) ⟨rfl, hI⟩
                  · intro us au w1 k29 hlo hhi ha hd hst hI
                    obtain rfl : k29 = 0 := by omega
                    have e21 := hd 21 _ (by kernel_rfl) rfl
                    have hg := slot_at (t := 83) 21 ha (by kernel_rfl) (by kernel_rfl) (by kernel_rfl) e21
                    exact StepI.skip rfl (unwanted_undef rfl rfl hg) ⟨rfl, hI⟩
                  · intro us au w1 k30 hlo hhi ha hd hst hI
                    obtain rfl : k30 = 0 := by omega
                    have e21 := hd 21 _ (by kernel_rfl) rfl
                    have hg := slot_at (t := 83) 21 ha (by kernel_rfl) (by kernel_rfl) (by kernel_rfl) e21
                    exact StepI.skip rfl (unwanted_undef rfl rfl hg) ⟨rfl, hI⟩
                  · intro us au w1 k31 hlo hhi ha hd hst hI
                    obtain rfl : k31 = 0 := by omega
                    have e21 := hd 21 _ (by kernel_rfl) rfl
                    have hg := slot_at (t := 83) 21 ha (by kernel_rfl) (by kernel_rfl) (by kernel_rfl) e21
                    exact StepI.skip rfl (unwanted_undef rfl rfl hg) ⟨rfl, hI⟩
                  · intro us au w1 k32 hlo hhi ha hd hst hI
                    obtain rfl : k32 = 0 := by omega
                    have e21 := hd 21 _ (by kernel_rfl) rfl
                    have hg := slot_at (t := 83) 21 ha (by kernel_rfl) (by kernel_rfl) (by kernel_rfl) e21
                    exact StepI.skip rfl (unwanted_undef rfl rfl hg) ⟨rfl, hI⟩
                  · intro us au w1 k33 hlo hhi ha hd hst hI
                    obtain rfl : k33 = 0 := by omega
                    have e16 := hd 16 _ (by kernel_rfl) rfl
                    have hg := slot_at (t := 78) 16 ha (by kernel_rfl) (by kernel_rfl) (by kernel_rfl) e16
                    exact StepI.skip rfl (unwanted_at rfl rfl hg rfl) ⟨rfl, hI⟩
                  · intro us au w1 k34 hlo hhi ha hd hst hI
                    obtain rfl : k34 = 0 := by omega
                    have e16 := hd 16 _ (by kernel_rfl) rfl
                    have e33 := hd 33 _ (by kernel_rfl) rfl
                    have q78 := slot_at (t := 78) 16 ha (by kernel_rfl) (by kernel_rfl) (by kernel_rfl) e16
                    have p78 := slot_norm q78
                    have q95 := slot_at (t := 95) 33 ha (by kernel_rfl) (by kernel_rfl) (by kernel_rfl) e33
                    have p95 := slot_norm q95
                    clear ha hd hst
                    exact StepI.pure (v := .bool true) rfl rfl (by go_simp) ⟨rfl, hI⟩
                 case done =>
                  intro us w1 hI hd
                  have e34 := hd 34 _ (by decide) rfl
                  have HBQ := Lib.hid hI
                  clear hd hI
                  simp only [putAll]
                  go_simp
                  go_wp2
                  go_meet
                  exact ⟨⟨_, rfl, by simp⟩, HBQ.out⟩
                case false =>
                 by_cases hcn0 : 0 < cn
                 · have HCD : Hid (decide (0 < cn) = true) := Lib.hid (decide_eq_true hcn0)
                   have dc : decide ((cn : Int) + 1 > 1) = true := decide_eq_true (by omega)
                   have dc' : decide ((1 : Int) < (cn : Int) + 1) = true := decide_eq_true (by omega)
                   have dc2 : decide (0 < cn) = true := decide_eq_true hcn0
                   refine wp_region_ph (by kernel_rfl) [] [.span 0 0, .span 0 0, .span 0 0, .span 0 0, .span 0 0, .span 0 0, .span 0 0, .span 0 0, .span 0 0, .span 0 0, .span 0 0, .span 0 0, .span 0 0, .span 0 0, .span 0 0, .span 0 0, .span 0 0, .span 0 0, .span 0 0, .span 0 0, .span 0 0, .span 0 0, .span 0 0, .span 0 0, .span 0 0, .span 0 0, .span 0 0, .span 0 0, .span 0 0, .span 0 0, .span 0 0, .span 0 0, .span 0 0, .span 0 0, .span 0 0] [fun z9 => z9 = .pointer (some ⟨g, 1, none⟩), fun z9 => z9 = .string xn, fun z9 => z9 = .bool true, fun z9 => z9 = .bool false, fun z9 => z9 = .bool false, fun z9 => z9 = .pointer (some ⟨g, 2, none⟩), fun z9 => z9 = .string xi, fun z9 => z9 = .bool false, fun z9 => z9 = .bool false, fun z9 => z9 = .bool false, fun z9 => z9 = .map (some g1), fun z9 => z9 = .pointer (some ⟨g, 1, none⟩), fun z9 => z9 = .string xn, fun z9 => z9 = .int .i64 ((cn : Int) + 1), fun z9 => z9 = .bool true, fun z9 => z9 = .bool true, fun z9 => z9 = .bool true, fun z9 => z9 = undef, fun z9 => z9 = undef, fun z9 => z9 = undef, fun z9 => z9 = undef, fun z9 => z9 = undef, fun z9 => z9 = undef, fun z9 => z9 = undef, fun z9 => z9 = undef, fun z9 => z9 = undef, fun z9 => z9 = undef, fun z9 => z9 = undef, fun z9 => z9 = undef, fun z9 => z9 = undef, fun z9 => z9 = undef, fun z9 => z9 = undef, fun z9 => z9 = undef, fun z9 => z9 = undef, fun z9 => z9 = .bool true] ((fun _ w => Below wc.heap.size wc w)) (by kernel_rfl) (by kernel_rfl) (by kernel_rfl) (by kernel_rfl) (by kernel_rfl) (by kernel_rfl) rfl rfl ((Below.refl _ _).drew) ?steps ?done
                   case steps =>
                    refine ⟨?_, ?_, ?_, ?_, ?_, ?_, ?_, ?_, ?_, ?_, ?_, ?_, ?_, ?_, ?_, ?_, ?_, ?_, ?_, ?_, ?_, ?_, ?_, ?_, ?_, ?_, ?_, ?_, ?_, ?_, ?_, ?_, ?_, ?_, ?_, trivial⟩
                    · intro us au w1 k0 hlo hhi ha hd hst hI
                      obtain rfl : k0 = 0 := by omega
                      have q8 := slot_far (t := 8) (v := .pointer (some ⟨g, 0, none⟩)) ha (by kernel_rfl) (by kernel_rfl)
                      have p8 := slot_norm q8
                      clear ha hd hst
                      exact StepI.pure (v := .pointer (some ⟨g, 1, none⟩)) rfl rfl (by go_simp) ⟨rfl, hI⟩
                    · intro us au w1 k1 hlo hhi ha hd hst hI
                      obtain rfl : k1 = 0 := by omega
                      have e0 := hd 0 _ (by kernel_rfl) rfl
                      have q62 := slot_at (t := 62) 0 ha (by kernel_rfl) (by kernel_rfl) (by kernel_rfl) e0
                      have p62 := slot_norm q62
                      clear ha hd hst
                      have kk : w1.cell? ⟨g, 1, none⟩ = some (.string xn) := (HC6.out.below hI HC6.out.blk).cell 1 (by decide)
                      exact StepI.pure (v := .string xn) rfl rfl (by go_simp) ⟨rfl, hI⟩
                    · intro us au w1 k2 hlo hhi ha hd hst hI
                      obtain rfl : k2 = 0 := by omega
                      have e1 := hd 1 _ (by kernel_rfl) rfl
                      have q63 := slot_at (t := 63) 1 ha (by kernel_rfl) (by kernel_rfl) (by kernel_rfl) e1
                      have p63 := slot_norm q63
                      clear ha hd hst
                      refine StepI.call (f := 105) (args := #[.string xn]) rfl rfl (by go_simp) ?_
                      refine (HNS.out w1 hI).mono ?_
                      rintro e w5 ⟨rfl, hb⟩
                      exact ⟨_, rfl, rfl, Below.trans hI (hb.mono (Below.size hI))⟩
                    · intro us au w1 k3 hlo hhi ha hd hst hI
                      obtain rfl : k3 = 0 := by omega
                      have e2 := hd 2 _ (by kernel_rfl) rfl
                      have q64 := slot_at (t := 64) 2 ha (by kernel_rfl) (by kernel_rfl) (by kernel_rfl) e2
                      have p64 := slot_norm q64
                      clear ha hd hst
                      exact StepI.pure (v := .bool false) rfl rfl (by go_simp) ⟨rfl, hI⟩
                    · intro us au w1 k4 hlo hhi ha hd hst hI
                      obtain rfl : k4 = 0 := by omega
                      have e3 := hd 3 _ (by kernel_rfl) rfl
                      have q65 := slot_at (t := 65) 3 ha (by kernel_rfl) (by kernel_rfl) (by kernel_rfl) e3
                      have p65 := slot_norm q65
                      clear ha hd hst
                      exact StepI.pure (v := .bool false) rfl rfl (by go_simp) ⟨rfl, hI⟩
                    · intro us au w1 k5 hlo hhi ha hd hst hI
                      obtain rfl : k5 = 0 := by omega
                      have e4 := hd 4 _ (by kernel_rfl) rfl
                      have q8 := slot_far (t := 8) (v := .pointer (some ⟨g, 0, none⟩)) ha (by kernel_rfl) (by kernel_rfl)
                      have p8 := slot_norm q8
                      have hg := slot_at (t := 66) 4 ha (by kernel_rfl) (by kernel_rfl) (by kernel_rfl) e4
                      clear ha hd hst
                      exact StepI.pure (v := .pointer (some ⟨g, 2, none⟩)) rfl (wanted_at rfl rfl hg) (by go_simp) ⟨rfl, hI⟩
                    · intro us au w1 k6 hlo hhi ha hd hst hI
                      obtain rfl : k6 = 0 := by omega
                      have e5 := hd 5 _ (by kernel_rfl) rfl
                      have e4 := hd 4 _ (by kernel_rfl) rfl
                      have q67 := slot_at (t := 67) 5 ha (by kernel_rfl) (by kernel_rfl) (by kernel_rfl) e5
                      have p67 := slot_norm q67
                      have hg := slot_at (t := 66) 4 ha (by kernel_rfl) (by kernel_rfl) (by kernel_rfl) e4
                      clear ha hd hst
                      have kk : w1.cell? ⟨g, 2, none⟩ = some (.string xi) := (HC6.out.below hI HC6.out.blk).cell 2 (by decide)
                      exact StepI.pure (v := .string xi) rfl (wanted_at rfl rfl hg) (by go_simp) ⟨rfl, hI⟩
                    · intro us au w1 k7 hlo hhi ha hd hst hI
                      obtain rfl : k7 = 0 := by omega
                      have e6 := hd 6 _ (by kernel_rfl) rfl
                      have e4 := hd 4 _ (by kernel_rfl) rfl
                      have q68 := slot_at (t := 68) 6 ha (by kernel_rfl) (by kernel_rfl) (by kernel_rfl) e6
                      have p68 := slot_norm q68
                      have hg := slot_at (t := 66) 4 ha (by kernel_rfl) (by kernel_rfl) (by kernel_rfl) e4
                      clear ha hd hst
                      refine StepI.call (f := 106) (args := #[.string xi]) rfl (wanted_at rfl rfl hg) (by go_simp) ?_
                      refine (HZS.out w1).mono ?_
                      rintro e w5 ⟨rfl, hb⟩
                      exact ⟨_, rfl, rfl, Below.trans hI (hb.mono (Below.size hI))⟩
                    · intro us au w1 k8 hlo hhi ha hd hst hI
                      obtain rfl : k8 = 0 := by omega
                      have e4 := hd 4 _ (by kernel_rfl) rfl
                      have e7 := hd 7 _ (by kernel_rfl) rfl
                      have q66 := slot_at (t := 66) 4 ha (by kernel_rfl) (by kernel_rfl) (by kernel_rfl) e4
                      have p66 := slot_norm q66
                      have q69 := slot_at (t := 69) 7 ha (by kernel_rfl) (by kernel_rfl) (by kernel_rfl) e7
                      have p69 := slot_norm q69
                      clear ha hd hst
                      exact StepI.pure (v := .bool false) rfl rfl (by go_simp) ⟨rfl, hI⟩
                    · intro us au w1 k9 hlo hhi ha hd hst hI
                      obtain rfl : k9 = 0 := by omega
                      have e8 := hd 8 _ (by kernel_rfl) rfl
                      have q70 := slot_at (t := 70) 8 ha (by kernel_rfl) (by kernel_rfl) (by kernel_rfl) e8
                      have p70 := slot_norm q70
                      clear ha hd hst
                      exact StepI.pure (v := .bool false) rfl rfl (by go_simp) ⟨rfl, hI⟩
                    · intro us au w1 k10 hlo hhi ha hd hst hI
                      obtain rfl : k10 = 0 := by omega
                      have e9 := hd 9 _ (by kernel_rfl) rfl
                      have q5 := slot_far (t := 5) (v := .map (some g1)) ha (by kernel_rfl) (by kernel_rfl)
                      have p5 := slot_norm q5
                      have hg := slot_at (t := 71) 9 ha (by kernel_rfl) (by kernel_rfl) (by kernel_rfl) e9
                      clear ha hd hst
                      exact StepI.pure (v := .map (some g1)) rfl (wanted_at rfl rfl hg) (by go_simp) ⟨rfl, hI⟩
                    · intro us au w1 k11 hlo hhi ha hd hst hI
                      obtain rfl : k11 = 0 := by omega
                      have e9 := hd 9 _ (by kernel_rfl) rfl
                      have q8 := slot_far (t := 8) (v := .pointer (some ⟨g, 0, none⟩)) ha (by kernel_rfl) (by kernel_rfl)
                      have p8 := slot_norm q8
                      have hg := slot_at (t := 71) 9 ha (by kernel_rfl) (by kernel_rfl) (by kernel_rfl) e9
                      clear ha hd hst
                      exact StepI.pure (v := .pointer (some ⟨g, 1, none⟩)) rfl (wanted_at rfl rfl hg) (by go_simp) ⟨rfl, hI⟩
                    · intro us au w1 k12 hlo hhi ha hd hst hI
                      obtain rfl : k12 = 0 := by omega
                      have e11 := hd 11 _ (by kernel_rfl) rfl
                      have e9 := hd 9 _ (by kernel_rfl) rfl
                      have q73 := slot_at (t := 73) 11 ha (by kernel_rfl) (by kernel_rfl) (by kernel_rfl) e11
                      have p73 := slot_norm q73
                      have hg := slot_at (t := 71) 9 ha (by kernel_rfl) (by kernel_rfl) (by kernel_rfl) e9
                      clear ha hd hst
                      have kk : w1.cell? ⟨g, 1, none⟩ = some (.string xn) := (HC6.out.below hI HC6.out.blk).cell 1 (by decide)
                      exact StepI.pure (v := .string xn) rfl (wanted_at rfl rfl hg) (by go_simp) ⟨rfl, hI⟩
                    · intro us au w1 k13 hlo hhi ha hd hst hI
                      obtain rfl : k13 = 0 := by omega
                      have e10 := hd 10 _ (by kernel_rfl) rfl
                      have e12 := hd 12 _ (by kernel_rfl) rfl
                      have e9 := hd 9 _ (by kernel_rfl) rfl
                      have q72 := slot_at (t := 72) 10 ha (by kernel_rfl) (by kernel_rfl) (by kernel_rfl) e10
                      have p72 := slot_norm q72
                      have q74 := slot_at (t := 74) 12 ha (by kernel_rfl) (by kernel_rfl) (by kernel_rfl) e12
                      have p74 := slot_norm q74
                      have hg := slot_at (t := 71) 9 ha (by kernel_rfl) (by kernel_rfl) (by kernel_rfl) e9
                      clear ha hd hst
                      have kl := HLK.out w1 hI
                      simp only [Int.natCast_add, Int.cast_ofNat_Int] at kl
                      exact StepI.pure (v := .int .i64 ((cn : Int) + 1)) rfl (wanted_at rfl rfl hg) (by go_simp) ⟨rfl, hI⟩
                    · intro us au w1 k14 hlo hhi ha hd hst hI
                      obtain rfl : k14 = 0 := by omega
                      have e13 := hd 13 _ (by kernel_rfl) rfl
                      have e9 := hd 9 _ (by kernel_rfl) rfl
                      have q75 := slot_at (t := 75) 13 ha (by kernel_rfl) (by kernel_rfl) (by kernel_rfl) e13
                      have p75 := slot_norm q75
                      have hg := slot_at (t := 71) 9 ha (by kernel_rfl) (by kernel_rfl) (by kernel_rfl) e9
                      clear ha hd hst
                      exact StepI.pure (v := .bool true) rfl (wanted_at rfl rfl hg) (by go_simp) ⟨rfl, hI⟩
                    · intro us au w1 k15 hlo hhi ha hd hst hI
                      obtain rfl : k15 = 0 := by omega
                      have e9 := hd 9 _ (by kernel_rfl) rfl
                      have e14 := hd 14 _ (by kernel_rfl) rfl
                      have q71 := slot_at (t := 71) 9 ha (by kernel_rfl) (by kernel_rfl) (by kernel_rfl) e9
                      have p71 := slot_norm q71
                      have q76 := slot_at (t := 76) 14 ha (by kernel_rfl) (by kernel_rfl) (by kernel_rfl) e14
                      have p76 := slot_norm q76
                      clear ha hd hst
                      exact StepI.pure (v := .bool true) rfl rfl (by go_simp) ⟨rfl, hI⟩
                    · intro us au w1 k16 hlo hhi ha hd hst hI
                      obtain rfl : k16 = 0 := by omega
                      have e15 := hd 15 _ (by kernel_rfl) rfl
                      have q77 := slot_at (t := 77) 15 ha (by kernel_rfl) (by kernel_rfl) (by kernel_rfl) e15
                      have p77 := slot_norm q77
                      clear ha hd hst
                      exact StepI.pure (v := .bool true) rfl rfl (by go_simp) ⟨rfl, hI⟩
                    · intro us au w1 k17 hlo hhi ha hd hst hI
                      obtain rfl : k17 = 0 := by omega
                      have e16 := hd 16 _ (by kernel_rfl) rfl
                      have hg := slot_at (t := 78) 16 ha (by kernel_rfl) (by kernel_rfl) (by kernel_rfl) e16
                      exact StepI.skip rfl (unwanted_at rfl rfl hg rfl) ⟨rfl, hI⟩
                    · intro us au w1 k18 hlo hhi ha hd hst hI
                      obtain rfl : k18 = 0 := by omega
                      have e16 := hd 16 _ (by kernel_rfl) rfl
                      have hg := slot_at (t := 78) 16 ha (by kernel_rfl) (by kernel_rfl) (by kernel_rfl) e16
                      exact StepI.skip rfl (unwanted_at rfl rfl hg rfl) ⟨rfl, hI⟩
                    · intro us au w1 k19 hlo hhi ha hd hst hI
                      obtain rfl : k19 = 0 := by omega
                      have e16 := hd 16 _ (by kernel_rfl) rfl
                      have hg := slot_at (t := 78) 16 ha (by kernel_rfl) (by kernel_rfl) (by kernel_rfl) e16
                      exact StepI.skip rfl (unwanted_at rfl rfl hg rfl) ⟨rfl, hI⟩
                    · intro us au w1 k20 hlo hhi ha hd hst hI
                      obtain rfl : k20 = 0 := by omega
                      have e16 := hd 16 _ (by kernel_rfl) rfl
                      have hg := slot_at (t := 78) 16 ha (by kernel_rfl) (by kernel_rfl) (by kernel_rfl) e16
                      exact StepI.skip rfl (unwanted_at rfl rfl hg rfl) ⟨rfl, hI⟩
                    · intro us au w1 k21 hlo hhi ha hd hst hI
                      obtain rfl : k21 = 0 := by omega
                      have e16 := hd 16 _ (by kernel_rfl) rfl
                      have hg := slot_at (t := 78) 16 ha (by kernel_rfl) (by kernel_rfl) (by kernel_rfl) e16
                      exact StepI.skip rfl (unwanted_at rfl rfl hg rfl) ⟨rfl, hI⟩
                    · intro us au w1 k22 hlo hhi ha hd hst hI
                      obtain rfl : k22 = 0 := by omega
                      have e21 := hd 21 _ (by kernel_rfl) rfl
                      have hg := slot_at (t := 83) 21 ha (by kernel_rfl) (by kernel_rfl) (by kernel_rfl) e21
                      exact StepI.skip rfl (unwanted_undef rfl rfl hg) ⟨rfl, hI⟩
                    · intro us au w1 k23 hlo hhi ha hd hst hI
                      obtain rfl : k23 = 0 := by omega
                      have e21 := hd 21 _ (by kernel_rfl) rfl
                      have hg := slot_at (t := 83) 21 ha (by kernel_rfl) (by kernel_rfl) (by kernel_rfl) e21
                      exact StepI.skip rfl (unwanted_undef rfl rfl hg) ⟨rfl, hI⟩
                    · intro us au w1 k24 hlo hhi ha hd hst hI
                      obtain rfl : k24 = 0 := by omega
                      have e21 := hd 21 _ (by kernel_rfl) rfl
                      have hg := slot_at (t := 83) 21 ha (by kernel_rfl) (by kernel_rfl) (by kernel_rfl) e21
                      exact StepI.skip rfl (unwanted_undef rfl rfl hg) ⟨rfl, hI⟩
                    · intro us au w1 k25 hlo hhi ha hd hst hI
                      obtain rfl : k25 = 0 := by omega
                      have e21 := hd 21 _ (by kernel_rfl) rfl
                      have hg := slot_at (t := 83) 21 ha (by kernel_rfl) (by kernel_rfl) (by kernel_rfl) e21
                      exact StepI.skip rfl (unwanted_undef rfl rfl hg) ⟨rfl, hI⟩
                    · intro us au w1 k26 hlo hhi ha hd hst hI
                      obtain rfl : k26 = 0 := by omega
                      have e21 := hd 21 _ (by kernel_rfl) rfl
                      have hg := slot_at (t := 83) 21 ha (by kernel_rfl) (by kernel_rfl) (by kernel_rfl) e21
                      exact StepI.skip rfl (unwanted_undef rfl rfl hg) ⟨rfl, hI⟩
                    · intro us au w1 k27 hlo hhi ha hd hst hI
                      obtain rfl : k27 = 0 := by omega
                      have e21 := hd 21 _ (by kernel_rfl) rfl
                      have hg := slot_at (t := 83) 21 ha (by kernel_rfl) (by kernel_rfl) (by kernel_rfl) e21
                      exact StepI.skip rfl (unwanted_undef rfl rfl hg) ⟨rfl, hI⟩
                    · intro us au w1 k28 hlo hhi ha hd hst hI
                      obtain rfl : k28 = 0 := by omega
                      have e21 := hd 21 _ (by kernel_rfl) rfl
                      have hg := slot_at (t := 83) 21 ha (by kernel_rfl) (by kernel_rfl) (by kernel_rfl) e21
                      exact StepI.skip rfl (unwanted_undef rfl rfl hg) ⟨rfl, hI⟩
                    · intro us au w1 k29 hlo hhi ha hd hst hI
                      obtain rfl : k29 = 0 := by omega
                      have e21 := hd 21 _ (by kernel_rfl) rfl
                      have hg := slot_at (t := 83) 21 ha (by kernel_rfl) (by kernel_rfl) (by kernel_rfl) e21
                      exact StepI.skip rfl (unwanted_undef rfl rfl hg) ⟨rfl, hI⟩
                    · intro us au w1 k30 hlo hhi ha hd hst hI
                      obtain rfl : k30 = 0 := by omega
                      have e21 := hd 21 _ (by kernel_rfl) rfl
                      have hg := slot_at (t := 83) 21 ha (by kernel_rfl) (by kernel_rfl) (by kernel_rfl) e21
                      exact StepI.skip rfl (unwanted_undef rfl rfl hg) ⟨rfl, hI⟩
                    · intro us au w1 k31 hlo hhi ha hd hst hI
                      obtain rfl : k31 = 0 := by omega
                      have e21 := hd 21 _ (by kernel_rfl) rfl
                      have hg := slot_at (t := 83) 21 ha (by kernel_rfl) (by kernel_rfl) (by kernel_rfl) e21
                      exact StepI.skip rfl (unwanted_undef rfl rfl hg) ⟨rfl, hI⟩
                    · intro us au w1 k32 hlo hhi ha hd hst hI
                      obtain rfl : k32 = 0 := by omega
                      have e21 := hd 21 _ (by kernel_rfl) rfl
                      have hg := slot_at (t := 83) 21 ha (by kernel_rfl) (by kernel_rfl) (by kernel_rfl) e21
                      exact StepI.skip rfl (unwanted_undef rfl rfl hg) ⟨rfl, hI⟩
                    · intro us au w1 k33 hlo hhi ha hd hst hI
                      obtain rfl : k33 = 0 := by omega
                      have e16 := hd 16 _ (by kernel_rfl) rfl
                      have hg := slot_at (t := 78) 16 ha (by kernel_rfl) (by kernel_rfl) (by kernel_rfl) e16
                      exact StepI.skip rfl (unwanted_at rfl rfl hg rfl) ⟨rfl, hI⟩
                    · intro us au w1 k34 hlo hhi ha hd hst hI
                      obtain rfl : k34 = 0 := by omega
                      have e16 := hd 16 _ (by kernel_rfl) rfl
                      have e33 := hd 33 _ (by kernel_rfl) rfl
                      have q78 := slot_at (t := 78) 16 ha (by kernel_rfl) (by kernel_rfl) (by kernel_rfl) e16
                      have p78 := slot_norm q78
                      have q95 := slot_at (t := 95) 33 ha (by kernel_rfl) (by kernel_rfl) (by kernel_rfl) e33
                      have p95 := slot_norm q95
                      clear ha hd hst
                      exact StepI.pure (v := .bool true) rfl rfl (by go_simp) ⟨rfl, hI⟩
                   case done =>
                    intro us w1 hI hd
                    have e34 := hd 34 _ (by decide) rfl
                    have HBQ := Lib.hid hI
                    clear hd hI
                    simp only [putAll]
                    go_simp
                    go_wp2
                    go_meet
                    exact ⟨⟨_, rfl, by rw [HCD.out]; simp⟩, HBQ.out⟩
                 · have HCD : Hid (decide (0 < cn) = false) := Lib.hid (decide_eq_false hcn0)
                   have dc : decide ((cn : Int) + 1 > 1) = false := decide_eq_false (by omega)
                   have dc' : decide ((1 : Int) < (cn : Int) + 1) = false := decide_eq_false (by omega)
                   have dc2 : decide (0 < cn) = false := decide_eq_false hcn0
                   obtain ⟨Av, cv, rfl⟩ := HST6.out.own.shape
                   by_cases hL0 : L.length = 0
                   · have HLO : Hid (lastOk L ⟨xm, xn, xi⟩ = true) := Lib.hid (by rw [List.eq_nil_of_length_eq_zero hL0]; rfl)
                     have dl : decide ((0 : Int) < (L.length : Int)) = false := decide_eq_false (by omega)
                     have dl' : decide (0 < L.length) = false := decide_eq_false (by omega)
                     refine wp_region_ph (by kernel_rfl) [] [.span 0 0, .span 0 0, .span 0 0, .span 0 0, .span 0 0, .span 0 0, .span 0 0, .span 0 0, .span 0 0, .span 0 0, .span 0 0, .span 0 0, .span 0 0, .span 0 0, .span 0 0, .span 0 0, .span 0 0, .span 0 0, .span 0 0, .span 0 0, .span 0 0, .span 0 0, .span 0 0, .span 0 0, .span 0 0, .span 0 0, .span 0 0, .span 0 0, .span 0 0, .span 0 0, .span 0 0, .span 0 0, .span 0 0, .span 0 0, .span 0 0] [fun z9 => z9 = .pointer (some ⟨g, 1, none⟩), fun z9 => z9 = .string xn, fun z9 => z9 = .bool true, fun z9 => z9 = .bool false, fun z9 => z9 = .bool false, fun z9 => z9 = .pointer (some ⟨g, 2, none⟩), fun z9 => z9 = .string xi, fun z9 => z9 = .bool false, fun z9 => z9 = .bool false, fun z9 => z9 = .bool false, fun z9 => z9 = .map (some g1), fun z9 => z9 = .pointer (some ⟨g, 1, none⟩), fun z9 => z9 = .string xn, fun z9 => z9 = .int .i64 ((cn : Int) + 1), fun z9 => z9 = .bool false, fun z9 => z9 = .bool false, fun z9 => z9 = .bool false, fun z9 => z9 = .pointer (some ⟨h, 0, none⟩), fun z9 => z9 = .slice Av L.length cv, fun z9 => z9 = .int .i64 (L.length : Int), fun z9 => z9 = .bool false, fun z9 => z9 = .bool false, fun z9 => z9 = undef, fun z9 => z9 = undef, fun z9 => z9 = undef, fun z9 => z9 = undef, fun z9 => z9 = undef, fun z9 => z9 = undef, fun z9 => z9 = undef, fun z9 => z9 = undef, fun z9 => z9 = undef, fun z9 => z9 = undef, fun z9 => z9 = undef, fun z9 => z9 = .bool false, fun z9 => z9 = .bool false] ((fun _ w => Below wc.heap.size wc w)) (by kernel_rfl) (by kernel_rfl) (by kernel_rfl) (by kernel_rfl) (by kernel_rfl) (by kernel_rfl) rfl rfl ((Below.refl _ _).drew) ?steps ?done
                     case steps =>
                      refine ⟨?_, ?_, ?_, ?_, ?_, ?_, ?_, ?_, ?_, ?_, ?_, ?_, ?_, ?_, ?_, ?_, ?_, ?_, ?_, ?_, ?_, ?_, ?_, ?_, ?_, ?_, ?_, ?_, ?_, ?_, ?_, ?_, ?_, ?_, ?_, trivial⟩
                      · intro us au w1 k0 hlo hhi ha hd hst hI
                        obtain rfl : k0 = 0 := by omega
                        have q8 := slot_far (t := 8) (v := .pointer (some ⟨g, 0, none⟩)) ha (by kernel_rfl) (by kernel_rfl)
                        have p8 := slot_norm q8
                        clear ha hd hst
                        exact StepI.pure (v := .pointer (some ⟨g, 1, none⟩)) rfl rfl (by go_simp) ⟨rfl, hI⟩
                      · intro us au w1 k1 hlo hhi ha hd hst hI
                        obtain rfl : k1 = 0 := by omega
                        have e0 := hd 0 _ (by kernel_rfl) rfl
                        have q62 := slot_at (t := 62) 0 ha (by kernel_rfl) (by kernel_rfl) (by kernel_rfl) e0
                        have p62 := slot_norm q62
                        clear ha hd hst
                        have kk : w1.cell? ⟨g, 1, none⟩ = some (.string xn) := (HC6.out.below hI HC6.out.blk).cell 1 (by decide)
                        exact StepI.pure (v := .string xn) rfl rfl (by go_simp) ⟨rfl, hI⟩
                      · intro us au w1 k2 hlo hhi ha hd hst hI
                        obtain rfl : k2 = 0 := by omega
                        have e1 := hd 1 _ (by kernel_rfl) rfl
                        have q63 := slot_at (t := 63) 1 ha (by kernel_rfl) (by kernel_rfl) (by kernel_rfl) e1
                        have p63 := slot_norm q63
                        clear ha hd hst
                        refine StepI.call (f := 105) (args := #[.string xn]) rfl rfl (by go_simp) ?_
                        refine (HNS.out w1 hI).mono ?_
                        rintro e w5 ⟨rfl, hb⟩
                        exact ⟨_, rfl, rfl, Below.trans hI (hb.mono (Below.size hI))⟩
                      · intro us au w1 k3 hlo hhi ha hd hst hI
                        obtain rfl : k3 = 0 := by omega
                        have e2 := hd 2 _ (by kernel_rfl) rfl
                        have q64 := slot_at (t := 64) 2 ha (by kernel_rfl) (by kernel_rfl) (by kernel_rfl) e2
                        have p64 := slot_norm q64
                        clear ha hd hst
                        exact StepI.pure (v := .bool false) rfl rfl (by go_simp) ⟨rfl, hI⟩
                      · intro us au w1 k4 hlo hhi ha hd hst hI
                        obtain rfl : k4 = 0 := by omega
                        have e3 := hd 3 _ (by kernel_rfl) rfl
                        have q65 := slot_at (t := 65) 3 ha (by kernel_rfl) (by kernel_rfl) (by kernel_rfl) e3
                        have p65 := slot_norm q65
                        clear ha hd hst
                        exact StepI.pure (v := .bool false) rfl rfl (by go_simp) ⟨rfl, hI⟩
                      · intro us au w1 k5 hlo hhi ha hd hst hI
                        obtain rfl : k5 = 0 := by omega
                        have e4 := hd 4 _ (by kernel_rfl) rfl
                        have q8 := slot_far (t := 8) (v := .pointer (some ⟨g, 0, none⟩)) ha (by kernel_rfl) (by kernel_rfl)
                        have p8 := slot_norm q8
                        have hg := slot_at (t := 66) 4 ha (by kernel_rfl) (by kernel_rfl) (by kernel_rfl) e4
                        clear ha hd hst
                        exact StepI.pure (v := .pointer (some ⟨g, 2, none⟩)) rfl (wanted_at rfl rfl hg) (by go_simp) ⟨rfl, hI⟩
                      · intro us au w1 k6 hlo hhi ha hd hst hI
                        obtain rfl : k6 = 0 := by omega
                        have e5 := hd 5 _ (by kernel_rfl) rfl
                        have e4 := hd 4 _ (by kernel_rfl) rfl
                        have q67 := slot_at (t := 67) 5 ha (by kernel_rfl) (by kernel_rfl) (by kernel_rfl) e5
                        have p67 := slot_norm q67
                        have hg := slot_at (t := 66) 4 ha (by kernel_rfl) (by kernel_rfl) (by kernel_rfl) e4
                        clear ha hd hst
                        have kk : w1.cell? ⟨g, 2, none⟩ = some (.string xi) := (HC6.out.below hI HC6.out.blk).cell 2 (by decide)
                        exact StepI.pure (v := .string xi) rfl (wanted_at rfl rfl hg) (by go_simp) ⟨rfl, hI⟩
                      · intro us au w1 k7 hlo hhi ha hd hst hI
                        obtain rfl : k7 = 0 := by omega
                        have e6 := hd 6 _ (by kernel_rfl) rfl
                        have e4 := hd 4 _ (by kernel_rfl) rfl
                        have q68 := slot_at (t := 68) 6 ha (by kernel_rfl) (by kernel_rfl) (by kernel_rfl) e6
                        have p68 := slot_norm q68
                        have hg := slot_at (t := 66) 4 ha (by kernel_rfl) (by kernel_rfl) (by kernel_rfl) e4
                        clear ha hd hst
                        refine StepI.call (f := 106) (args := #[.string xi]) rfl (wanted_at rfl rfl hg) (by go_simp) ?_
                        refine (HZS.out w1).mono ?_
                        rintro e w5 ⟨rfl, hb⟩
                        exact ⟨_, rfl, rfl, Below.trans hI (hb.mono (Below.size hI))⟩
                      · intro us au w1 k8 hlo hhi ha hd hst hI
                        obtain rfl : k8 = 0 := by omega
                        have e4 := hd 4 _ (by kernel_rfl) rfl
                        have e7 := hd 7 _ (by kernel_rfl) rfl
                        have q66 := slot_at (t := 66) 4 ha (by kernel_rfl) (by kernel_rfl) (by kernel_rfl) e4
                        have p66 := slot_norm q66
                        have q69 := slot_at (t := 69) 7 ha (by kernel_rfl) (by kernel_rfl) (by kernel_rfl) e7
                        have p69 := slot_norm q69
                        clear ha hd hst
                        exact StepI.pure (v := .bool false) rfl rfl (by go_simp) ⟨rfl, hI⟩
                      · intro us au w1 k9 hlo hhi ha hd hst hI
                        obtain rfl : k9 = 0 := by omega
                        have e8 := hd 8 _ (by kernel_rfl) rfl
                        have q70 := slot_at (t := 70) 8 ha (by kernel_rfl) (by kernel_rfl) (by kernel_rfl) e8
                        have p70 := slot_norm q70
                        clear ha hd hst
                        exact StepI.pure (v := .bool false) rfl rfl (by go_simp) ⟨rfl, hI⟩
                      · intro us au w1 k10 hlo hhi ha hd hst hI
                        obtain rfl : k10 = 0 := by omega
                        have e9 := hd 9 _ (by kernel_rfl) rfl
                        have q5 := slot_far (t := 5) (v := .map (some g1)) ha (by kernel_rfl) (by kernel_rfl)
                        have p5 := slot_norm q5
                        have hg := slot_at (t := 71) 9 ha (by kernel_rfl) (by kernel_rfl) (by kernel_rfl) e9
                        clear ha hd hst
                        exact StepI.pure (v := .map (some g1)) rfl (wanted_at rfl rfl hg) (by go_simp) ⟨rfl, hI⟩
                      · intro us au w1 k11 hlo hhi ha hd hst hI
                        obtain rfl : k11 = 0 := by omega
                        have e9 := hd 9 _ (by kernel_rfl) rfl
                        have q8 := slot_far (t := 8) (v := .pointer (some ⟨g, 0, none⟩)) ha (by kernel_rfl) (by kernel_rfl)
                        have p8 := slot_norm q8
                        have hg := slot_at (t := 71) 9 ha (by kernel_rfl) (by kernel_rfl) (by kernel_rfl) e9
                        clear ha hd hst
                        exact StepI.pure (v := .pointer (some ⟨g, 1, none⟩)) rfl (wanted_at rfl rfl hg) (by go_simp) ⟨rfl, hI⟩
                      · intro us au w1 k12 hlo hhi ha hd hst hI
                        obtain rfl : k12 = 0 := by omega
                        have e11 := hd 11 _ (by kernel_rfl) rfl
                        have e9 := hd 9 _ (by kernel_rfl) rfl
                        have q73 := slot_at (t := 73) 11 ha (by kernel_rfl) (by kernel_rfl) (by kernel_rfl) e11
                        have p73 := slot_norm q73
                        have hg := slot_at (t := 71) 9 ha (by kernel_rfl) (by kernel_rfl) (by kernel_rfl) e9
                        clear ha hd hst
                        have kk : w1.cell? ⟨g, 1, none⟩ = some (.string xn) := (HC6.out.below hI HC6.out.blk).cell 1 (by decide)
                        exact StepI.pure (v := .string xn) rfl (wanted_at rfl rfl hg) (by go_simp) ⟨rfl, hI⟩
                      · intro us au w1 k13 hlo hhi ha hd hst hI
                        obtain rfl : k13 = 0 := by omega
                        have e10 := hd 10 _ (by kernel_rfl) rfl
                        have e12 := hd 12 _ (by kernel_rfl) rfl
                        have e9 := hd 9 _ (by kernel_rfl) rfl
                        have q72 := slot_at (t := 72) 10 ha (by kernel_rfl) (by kernel_rfl) (by kernel_rfl) e10
                        have p72 := slot_norm q72
                        have q74 := slot_at (t := 74) 12 ha (by kernel_rfl) (by kernel_rfl) (by kernel_rfl) e12
                        have p74 := slot_norm q74
                        have hg := slot_at (t := 71) 9 ha (by kernel_rfl) (by kernel_rfl) (by kernel_rfl) e9
                        clear ha hd hst
                        have kl := HLK.out w1 hI
                        simp only [Int.natCast_add, Int.cast_ofNat_Int] at kl
                        exact StepI.pure (v := .int .i64 ((cn : Int) + 1)) rfl (wanted_at rfl rfl hg) (by go_simp) ⟨rfl, hI⟩
                      · intro us au w1 k14 hlo hhi ha hd hst hI
                        obtain rfl : k14 = 0 := by omega
                        have e13 := hd 13 _ (by kernel_rfl) rfl
                        have e9 := hd 9 _ (by kernel_rfl) rfl
                        have q75 := slot_at (t := 75) 13 ha (by kernel_rfl) (by kernel_rfl) (by kernel_rfl) e13
                        have p75 := slot_norm q75
                        have hg := slot_at (t := 71) 9 ha (by kernel_rfl) (by kernel_rfl) (by kernel_rfl) e9
                        clear ha hd hst
                        exact StepI.pure (v := .bool false) rfl (wanted_at rfl rfl hg) (by go_simp) ⟨rfl, hI⟩
                      · intro us au w1 k15 hlo hhi ha hd hst hI
                        obtain rfl : k15 = 0 := by omega
                        have e9 := hd 9 _ (by kernel_rfl) rfl
                        have e14 := hd 14 _ (by kernel_rfl) rfl
                        have q71 := slot_at (t := 71) 9 ha (by kernel_rfl) (by kernel_rfl) (by kernel_rfl) e9
                        have p71 := slot_norm q71
                        have q76 := slot_at (t := 76) 14 ha (by kernel_rfl) (by kernel_rfl) (by kernel_rfl) e14
                        have p76 := slot_norm q76
                        clear ha hd hst
                        exact StepI.pure (v := .bool false) rfl rfl (by go_simp) ⟨rfl, hI⟩
                      · intro us au w1 k16 hlo hhi ha hd hst hI
                        obtain rfl : k16 = 0 := by omega
                        have e15 := hd 15 _ (by kernel_rfl) rfl
                        have q77 := slot_at (t := 77) 15 ha (by kernel_rfl) (by kernel_rfl) (by kernel_rfl) e15
                        have p77 := slot_norm q77
                        clear ha hd hst
                        exact StepI.pure (v := .bool false) rfl rfl (by go_simp) ⟨rfl, hI⟩
                      · intro us au w1 k17 hlo hhi ha hd hst hI
                        obtain rfl : k17 = 0 := by omega
                        have e16 := hd 16 _ (by kernel_rfl) rfl
                        have q4 := slot_far (t := 4) (v := .pointer (some ⟨h, 0, none⟩)) ha (by kernel_rfl) (by kernel_rfl)
                        have p4 := slot_norm q4
                        have hg := slot_at (t := 78) 16 ha (by kernel_rfl) (by kernel_rfl) (by kernel_rfl) e16
                        clear ha hd hst
                        exact StepI.pure (v := .pointer (some ⟨h, 0, none⟩)) rfl (wanted_at rfl rfl hg) (by go_simp) ⟨rfl, hI⟩
                      · intro us au w1 k18 hlo hhi ha hd hst hI
                        obtain rfl : k18 = 0 := by omega
                        have e17 := hd 17 _ (by kernel_rfl) rfl
                        have e16 := hd 16 _ (by kernel_rfl) rfl
                        have q79 := slot_at (t := 79) 17 ha (by kernel_rfl) (by kernel_rfl) (by kernel_rfl) e17
                        have p79 := slot_norm q79
                        have hg := slot_at (t := 78) 16 ha (by kernel_rfl) (by kernel_rfl) (by kernel_rfl) e16
                        clear ha hd hst
                        have kk : w1.cell? ⟨h, 0, none⟩ = _ := (HST6.out.below hI).ct.cell 0 (by decide)
                        exact StepI.pure (v := .slice Av L.length cv) rfl (wanted_at rfl rfl hg) (by go_simp) ⟨rfl, hI⟩
                      · intro us au w1 k19 hlo hhi ha hd hst hI
                        obtain rfl : k19 = 0 := by omega
                        have e18 := hd 18 _ (by kernel_rfl) rfl
                        have e16 := hd 16 _ (by kernel_rfl) rfl
                        have q80 := slot_at (t := 80) 18 ha (by kernel_rfl) (by kernel_rfl) (by kernel_rfl) e18
                        have p80 := slot_norm q80
                        have hg := slot_at (t := 78) 16 ha (by kernel_rfl) (by kernel_rfl) (by kernel_rfl) e16
                        clear ha hd hst
                        exact StepI.pure (v := .int .i64 (L.length : Int)) rfl (wanted_at rfl rfl hg) (by go_simp) ⟨rfl, hI⟩
                      · intro us au w1 k20 hlo hhi ha hd hst hI
                        obtain rfl : k20 = 0 := by omega
                        have e19 := hd 19 _ (by kernel_rfl) rfl
                        have e16 := hd 16 _ (by kernel_rfl) rfl
                        have q81 := slot_at (t := 81) 19 ha (by kernel_rfl) (by kernel_rfl) (by kernel_rfl) e19
                        have p81 := slot_norm q81
                        have hg := slot_at (t := 78) 16 ha (by kernel_rfl) (by kernel_rfl) (by kernel_rfl) e16
                        clear ha hd hst
                        exact StepI.pure (v := .bool false) rfl (wanted_at rfl rfl hg) (by go_simp) ⟨rfl, hI⟩
                      · intro us au w1 k21 hlo hhi ha hd hst hI
                        obtain rfl : k21 = 0 := by omega
                        have e20 := hd 20 _ (by kernel_rfl) rfl
                        have e16 := hd 16 _ (by kernel_rfl) rfl
                        have q82 := slot_at (t := 82) 20 ha (by kernel_rfl) (by kernel_rfl) (by kernel_rfl) e20
                        have p82 := slot_norm q82
                        have hg := slot_at (t := 78) 16 ha (by kernel_rfl) (by kernel_rfl) (by kernel_rfl) e16
                        clear ha hd hst
                        exact StepI.pure (v := .bool false) rfl (wanted_at rfl rfl hg) (by go_simp) ⟨rfl, hI⟩
                      · intro us au w1 k22 hlo hhi ha hd hst hI
                        obtain rfl : k22 = 0 := by omega
                        have e21 := hd 21 _ (by kernel_rfl) rfl
                        have hg := slot_at (t := 83) 21 ha (by kernel_rfl) (by kernel_rfl) (by kernel_rfl) e21
                        exact StepI.skip rfl (unwanted_at rfl rfl hg rfl) ⟨rfl, hI⟩
                      · intro us au w1 k23 hlo hhi ha hd hst hI
                        obtain rfl : k23 = 0 := by omega
                        have e21 := hd 21 _ (by kernel_rfl) rfl
                        have hg := slot_at (t := 83) 21 ha (by kernel_rfl) (by kernel_rfl) (by kernel_rfl) e21
                        exact StepI.skip rfl (unwanted_at rfl rfl hg rfl) ⟨rfl, hI⟩
                      · intro us au w1 k24 hlo hhi ha hd hst hI
                        obtain rfl : k24 = 0 := by omega
                        have e21 := hd 21 _ (by kernel_rfl) rfl
                        have hg := slot_at (t := 83) 21 ha (by kernel_rfl) (by kernel_rfl) (by kernel_rfl) e21
                        exact StepI.skip rfl (unwanted_at rfl rfl hg rfl) ⟨rfl, hI⟩
                      · intro us au w1 k25 hlo hhi ha hd hst hI
                        obtain rfl : k25 = 0 := by omega
                        have e21 := hd 21 _ (by kernel_rfl) rfl
                        have hg := slot_at (t := 83) 21 ha (by kernel_rfl) (by kernel_rfl) (by kernel_rfl) e21
                        exact StepI.skip rfl (unwanted_at rfl rfl hg rfl) ⟨rfl, hI⟩
                      · intro us au w1 k26 hlo hhi ha hd hst hI
                        obtain rfl : k26 = 0 := by omega
                        have e21 := hd 21 _ (by kernel_rfl) rfl
                        have hg := slot_at (t := 83) 21 ha (by kernel_rfl) (by kernel_rfl) (by kernel_rfl) e21
                        exact StepI.skip rfl (unwanted_at rfl rfl hg rfl) ⟨rfl, hI⟩
                      · intro us au w1 k27 hlo hhi ha hd hst hI
                        obtain rfl : k27 = 0 := by omega
                        have e21 := hd 21 _ (by kernel_rfl) rfl
                        have hg := slot_at (t := 83) 21 ha (by kernel_rfl) (by kernel_rfl) (by kernel_rfl) e21
                        exact StepI.skip rfl (unwanted_at rfl rfl hg rfl) ⟨rfl, hI⟩
                      · intro us au w1 k28 hlo hhi ha hd hst hI
                        obtain rfl : k28 = 0 := by omega
                        have e21 := hd 21 _ (by kernel_rfl) rfl
                        have hg := slot_at (t := 83) 21 ha (by kernel_rfl) (by kernel_rfl) (by kernel_rfl) e21
                        exact StepI.skip rfl (unwanted_at rfl rfl hg rfl) ⟨rfl, hI⟩
                      · intro us au w1 k29 hlo hhi ha hd hst hI
                        obtain rfl : k29 = 0 := by omega
                        have e21 := hd 21 _ (by kernel_rfl) rfl
                        have hg := slot_at (t := 83) 21 ha (by kernel_rfl) (by kernel_rfl) (by kernel_rfl) e21
                        exact StepI.skip rfl (unwanted_at rfl rfl hg rfl) ⟨rfl, hI⟩
                      · intro us au w1 k30 hlo hhi ha hd hst hI
                        obtain rfl : k30 = 0 := by omega
                        have e21 := hd 21 _ (by kernel_rfl) rfl
                        have hg := slot_at (t := 83) 21 ha (by kernel_rfl) (by kernel_rfl) (by kernel_rfl) e21
                        exact StepI.skip rfl (unwanted_at rfl rfl hg rfl) ⟨rfl, hI⟩
                      · intro us au w1 k31 hlo hhi ha hd hst hI
                        obtain rfl : k31 = 0 := by omega
                        have e21 := hd 21 _ (by kernel_rfl) rfl
                        have hg := slot_at (t := 83) 21 ha (by kernel_rfl) (by kernel_rfl) (by kernel_rfl) e21
                        exact StepI.skip rfl (unwanted_at rfl rfl hg rfl) ⟨rfl, hI⟩
                      · intro us au w1 k32 hlo hhi ha hd hst hI
                        obtain rfl : k32 = 0 := by omega
                        have e21 := hd 21 _ (by kernel_rfl) rfl
                        have hg := slot_at (t := 83) 21 ha (by kernel_rfl) (by kernel_rfl) (by kernel_rfl) e21
                        exact StepI.skip rfl (unwanted_at rfl rfl hg rfl) ⟨rfl, hI⟩
                      · intro us au w1 k33 hlo hhi ha hd hst hI
                        obtain rfl : k33 = 0 := by omega
                        have e21 := hd 21 _ (by kernel_rfl) rfl
                        have e32 := hd 32 _ (by kernel_rfl) rfl
                        have e16 := hd 16 _ (by kernel_rfl) rfl
                        have q83 := slot_at (t := 83) 21 ha (by kernel_rfl) (by kernel_rfl) (by kernel_rfl) e21
                        have p83 := slot_norm q83
                        have q94 := slot_at (t := 94) 32 ha (by kernel_rfl) (by kernel_rfl) (by kernel_rfl) e32
                        have p94 := slot_norm q94
                        have hg := slot_at (t := 78) 16 ha (by kernel_rfl) (by kernel_rfl) (by kernel_rfl) e16
                        clear ha hd hst
                        exact StepI.pure (v := .bool false) rfl (wanted_at rfl rfl hg) (by go_simp) ⟨rfl, hI⟩
                      · intro us au w1 k34 hlo hhi ha hd hst hI
                        obtain rfl : k34 = 0 := by omega
                        have e16 := hd 16 _ (by kernel_rfl) rfl
                        have e33 := hd 33 _ (by kernel_rfl) rfl
                        have q78 := slot_at (t := 78) 16 ha (by kernel_rfl) (by kernel_rfl) (by kernel_rfl) e16
                        have p78 := slot_norm q78
                        have q95 := slot_at (t := 95) 33 ha (by kernel_rfl) (by kernel_rfl) (by kernel_rfl) e33
                        have p95 := slot_norm q95
                        clear ha hd hst
                        exact StepI.pure (v := .bool false) rfl rfl (by go_simp) ⟨rfl, hI⟩
                     case done =>
                      intro us w1 hI hd
                      have e34 := hd 34 _ (by decide) rfl
                      have HBQ := Lib.hid hI
                      clear hd hI
                      simp only [putAll]
                      go_simp
                      go_wp2
                      go_meet
                      exact ⟨⟨_, rfl, by rw [HCD.out, HLO.out]; simp⟩, HBQ.out⟩
                   · have dl : decide ((0 : Int) < (L.length : Int)) = true := decide_eq_true (by omega)
                     have dl' : decide (0 < L.length) = true := decide_eq_true (by omega)
                     obtain ⟨lq, hlq⟩ : ∃ lq : Nat, lq = L.length - 1 := ⟨_, rfl⟩
                     obtain ⟨y, hy⟩ : ∃ y, L[lq]? = some y := ⟨_, List.getElem?_eq_getElem (by omega)⟩
                     have HLO : Hid (lastOk L ⟨xm, xn, xi⟩ = lessB y.m y.n xm xn) := Lib.hid (by
                      unfold lastOk
                      rw [List.getLast?_eq_getElem?, ← hlq, hy])
                     have hysz := HYS.out y (List.mem_of_getElem? hy)
                     obtain ⟨eb, eo, rfl, hebl, hecell⟩ := HST6.out.own.entsAt (by omega)
                     have HY0 := Lib.hid (fun w1 (hb : Below wc.heap.size wc w1) => (hb.cell (p := ⟨eb, eo + lq * 3, none⟩) hebl).trans (hecell lq y hy).1)
                     have HY1 := Lib.hid (fun w1 (hb : Below wc.heap.size wc w1) => (hb.cell (p := ⟨eb, eo + lq * 3 + 1, none⟩) hebl).trans (hecell lq y hy).2.1)
                     have HY2 := Lib.hid (fun w1 (hb : Below wc.heap.size wc w1) => (hb.cell (p := ⟨eb, eo + lq * 3 + 2, none⟩) hebl).trans (hecell lq y hy).2.2)
                     have HLS := Lib.hid (fun w1 => less_any y.m y.n y.i xm xn xi w1 (by have := HS.out; omega) (by have := HZN.out; omega))
                     have ql : IntKind.i64.wrap ((L.length : Int) - 1) = (lq : Int) := by rw [IntWalk.i64_in _ (by omega)]; omega
                     have qlt : lq < L.length := by omega
                     generalize lessB y.m y.n xm xn = lb at *
                     clear hy hysz hecell hebl hlq
                     refine wp_region_ph (by kernel_rfl) [] [.span 0 0, .span 0 0, .span 0 0, .span 0 0, .span 0 0, .span 0 0, .span 0 0, .span 0 0, .span 0 0, .span 0 0, .span 0 0, .span 0 0, .span 0 0, .span 0 0, .span 0 0, .span 0 0, .span 0 0, .span 0 0, .span 0 0, .span 0 0, .span 0 0, .span 0 0, .span 0 0, .span 0 0, .span 0 0, .span 0 0, .span 0 0, .span 0 0, .span 0 0, .span 0 0, .span 0 0, .span 0 0, .span 0 0, .span 0 0, .span 0 0] [fun z9 => z9 = .pointer (some ⟨g, 1, none⟩), fun z9 => z9 = .string xn, fun z9 => z9 = .bool true, fun z9 => z9 = .bool false, fun z9 => z9 = .bool false, fun z9 => z9 = .pointer (some ⟨g, 2, none⟩), fun z9 => z9 = .string xi, fun z9 => z9 = .bool false, fun z9 => z9 = .bool false, fun z9 => z9 = .bool false, fun z9 => z9 = .map (some g1), fun z9 => z9 = .pointer (some ⟨g, 1, none⟩), fun z9 => z9 = .string xn, fun z9 => z9 = .int .i64 ((cn : Int) + 1), fun z9 => z9 = .bool false, fun z9 => z9 = .bool false, fun z9 => z9 = .bool false, fun z9 => z9 = .pointer (some ⟨h, 0, none⟩), fun z9 => z9 = .slice (some ⟨eb, eo, none⟩) L.length cv, fun z9 => z9 = .int .i64 (L.length : Int), fun z9 => z9 = .bool true, fun z9 => z9 = .bool true, fun z9 => z9 = .pointer (some ⟨h, 0, none⟩), fun z9 => z9 = .slice (some ⟨eb, eo, none⟩) L.length cv, fun z9 => z9 = .pointer (some ⟨h, 0, none⟩), fun z9 => z9 = .slice (some ⟨eb, eo, none⟩) L.length cv, fun z9 => z9 = .int .i64 (L.length : Int), fun z9 => z9 = .int .i64 (lq : Int), fun z9 => z9 = .pointer (some ⟨eb, eo + lq * 3, none⟩), fun z9 => z9 = .agg #[.string y.m, .string y.n, .string y.i], fun z9 => z9 = .agg #[.string xm, .string xn, .string xi], fun z9 => z9 = .bool lb, fun z9 => z9 = .bool (!lb), fun z9 => z9 = .bool (!lb), fun z9 => z9 = .bool (!lb)] ((fun _ w => Below wc.heap.size wc w)) (by kernel_rfl) (by kernel_rfl) (by kernel_rfl) (by kernel_rfl) (by kernel_rfl) (by kernel_rfl) rfl rfl ((Below.refl _ _).drew) ?steps ?done
                     case steps =>
                      refine ⟨?_, ?_, ?_, ?_, ?_, ?_, ?_, ?_, ?_, ?_, ?_, ?_, ?_, ?_, ?_, ?_, ?_, ?_, ?_, ?_, ?_, ?_, ?_, ?_, ?_, ?_, ?_, ?_, ?_, ?_, ?_, ?_, ?_, ?_, ?_, trivial⟩
                      · intro us au w1 k0 hlo hhi ha hd hst hI
                        obtain rfl : k0 = 0 := by omega
                        have q8 := slot_far (t := 8) (v := .pointer (some ⟨g, 0, none⟩)) ha (by kernel_rfl) (by kernel_rfl)
                        have p8 := slot_norm q8
                        clear ha hd hst
                        exact StepI.pure (v := .pointer (some ⟨g, 1, none⟩)) rfl rfl (by go_simp) ⟨rfl, hI⟩
                      · intro us au w1 k1 hlo hhi ha hd hst hI
                        obtain rfl : k1 = 0 := by omega
                        have e0 := hd 0 _ (by kernel_rfl) rfl
                        have q62 := slot_at (t := 62) 0 ha (by kernel_rfl) (by kernel_rfl) (by kernel_rfl) e0
                        have p62 := slot_norm q62
                        clear ha hd hst
                        have kk : w1.cell? ⟨g, 1, none⟩ = some (.string xn) := (HC6.out.below hI HC6.out.blk).cell 1 (by decide)
                        exact StepI.pure (v := .string xn) rfl rfl (by go_simp) ⟨rfl, hI⟩
                      · intro us au w1 k2 hlo hhi ha hd hst hI
                        obtain rfl : k2 = 0 := by omega
                        have e1 := hd 1 _ (by kernel_rfl) rfl
                        have q63 := slot_at (t := 63) 1 ha (by kernel_rfl) (by kernel_rfl) (by kernel_rfl) e1
                        have p63 := slot_norm q63
                        clear ha hd hst
                        refine StepI.call (f := 105) (args := #[.string xn]) rfl rfl (by go_simp) ?_
                        refine (HNS.out w1 hI).mono ?_
                        rintro e w5 ⟨rfl, hb⟩
                        exact ⟨_, rfl, rfl, Below.trans hI (hb.mono (Below.size hI))⟩
                      · intro us au w1 k3 hlo hhi ha hd hst hI
                        obtain rfl : k3 = 0 := by omega
                        have e2 := hd 2 _ (by kernel_rfl) rfl
                        have q64 := slot_at (t := 64) 2 ha (by kernel_rfl) (by kernel_rfl) (by kernel_rfl) e2
                        have p64 := slot_norm q64
                        clear ha hd hst
                        exact StepI.pure (v := .bool false) rfl rfl (by go_simp) ⟨rfl, hI⟩
                      · intro us au w1 k4 hlo hhi ha hd hst hI
                        obtain rfl : k4 = 0 := by omega
                        have e3 := hd 3 _ (by kernel_rfl) rfl
                        have q65 := slot_at (t := 65) 3 ha (by kernel_rfl) (by kernel_rfl) (by kernel_rfl) e3
                        have p65 := slot_norm q65
                        clear ha hd hst
                        exact StepI.pure (v := .bool false) rfl rfl (by go_simp) ⟨rfl, hI⟩
                      · intro us au w1 k5 hlo hhi ha hd hst hI
                        obtain rfl : k5 = 0 := by omega
                        have e4 := hd 4 _ (by kernel_rfl) rfl
                        have q8 := slot_far (t := 8) (v := .pointer (some ⟨g, 0, none⟩)) ha (by kernel_rfl) (by kernel_rfl)
                        have p8 := slot_norm q8
                        have hg := slot_at (t := 66) 4 ha (by kernel_rfl) (by kernel_rfl) (by kernel_rfl) e4
                        clear ha hd hst
                        exact StepI.pure (v := .pointer (some ⟨g, 2, none⟩)) rfl (wanted_at rfl rfl hg) (by go_simp) ⟨rfl, hI⟩
                      · intro us au w1 k6 hlo hhi ha hd hst hI
                        obtain rfl : k6 = 0 := by omega
                        have e5 := hd 5 _ (by kernel_rfl) rfl
                        have e4 := hd 4 _ (by kernel_rfl) rfl
                        have q67 := slot_at (t := 67) 5 ha (by kernel_rfl) (by kernel_rfl) (by kernel_rfl) e5
                        have p67 := slot_norm q67
                        have hg := slot_at (t := 66) 4 ha (by kernel_rfl) (by kernel_rfl) (by kernel_rfl) e4
                        clear ha hd hst
                        have kk : w1.cell? ⟨g, 2, none⟩ = some (.string xi) := (HC6.out.below hI HC6.out.blk).cell 2 (by decide)
                        exact StepI.pure (v := .string xi) rfl (wanted_at rfl rfl hg) (by go_simp) ⟨rfl, hI⟩
                      · intro us au w1 k7 hlo hhi ha hd hst hI
                        obtain rfl : k7 = 0 := by omega
                        have e6 := hd 6 _ (by kernel_rfl) rfl
                        have e4 := hd 4 _ (by kernel_rfl) rfl
                        have q68 := slot_at (t := 68) 6 ha (by kernel_rfl) (by kernel_rfl) (by kernel_rfl) e6
                        have p68 := slot_norm q68
                        have hg := slot_at (t := 66) 4 ha (by kernel_rfl) (by kernel_rfl) (by kernel_rfl) e4
                        clear ha hd hst
                        refine StepI.call (f := 106) (args := #[.string xi]) rfl (wanted_at rfl rfl hg) (by go_simp) ?_
                        refine (HZS.out w1).mono ?_
                        rintro e w5 ⟨rfl, hb⟩
                        exact ⟨_, rfl, rfl, Below.trans hI (hb.mono (Below.size hI))⟩
                      · intro us au w1 k8 hlo hhi ha hd hst hI
                        obtain rfl : k8 = 0 := by omega
                        have e4 := hd 4 _ (by kernel_rfl) rfl
                        have e7 := hd 7 _ (by kernel_rfl) rfl
                        have q66 := slot_at (t := 66) 4 ha (by kernel_rfl) (by kernel_rfl) (by kernel_rfl) e4
                        have p66 := slot_norm q66
                        have q69 := slot_at (t := 69) 7 ha (by kernel_rfl) (by kernel_rfl) (by kernel_rfl) e7
                        have p69 := slot_norm q69
                        clear ha hd hst
                        exact StepI.pure (v := .bool false) rfl rfl (by go_simp) ⟨rfl, hI⟩
                      · intro us au w1 k9 hlo hhi ha hd hst hI
                        obtain rfl : k9 = 0 := by omega
                        have e8 := hd 8 _ (by kernel_rfl) rfl
                        have q70 := slot_at (t := 70) 8 ha (by kernel_rfl) (by kernel_rfl) (by kernel_rfl) e8
                        have p70 := slot_norm q70
                        clear ha hd hst
                        exact StepI.pure (v := .bool false) rfl rfl (by go_simp) ⟨rfl, hI⟩
                      · intro us au w1 k10 hlo hhi ha hd hst hI
                        obtain rfl : k10 = 0 := by omega
                        have e9 := hd 9 _ (by kernel_rfl) rfl
                        have q5 := slot_far (t := 5) (v := .map (some g1)) ha (by kernel_rfl) (by kernel_rfl)
                        have p5 := slot_norm q5
                        have hg := slot_at (t := 71) 9 ha (by kernel_rfl) (by kernel_rfl) (by kernel_rfl) e9
                        clear ha hd hst
                        exact StepI.pure (v := .map (some g1)) rfl (wanted_at rfl rfl hg) (by go_simp) ⟨rfl, hI⟩
                      · intro us au w1 k11 hlo hhi ha hd hst hI
                        obtain rfl : k11 = 0 := by omega
                        have e9 := hd 9 _ (by kernel_rfl) rfl
                        have q8 := slot_far (t := 8) (v := .pointer (some ⟨g, 0, none⟩)) ha (by kernel_rfl) (by kernel_rfl)
                        have p8 := slot_norm q8
                        have hg := slot_at (t := 71) 9 ha (by kernel_rfl) (by kernel_rfl) (by kernel_rfl) e9
                        clear ha hd hst
                        exact StepI.pure (v := .pointer (some ⟨g, 1, none⟩)) rfl (wanted_at rfl rfl hg) (by go_simp) ⟨rfl, hI⟩
                      · intro us au w1 k12 hlo hhi ha hd hst hI
                        obtain rfl : k12 = 0 := by omega
                        have e11 := hd 11 _ (by kernel_rfl) rfl
                        have e9 := hd 9 _ (by kernel_rfl) rfl
                        have q73 := slot_at (t := 73) 11 ha (by kernel_rfl) (by kernel_rfl) (by kernel_rfl) e11
                        have p73 := slot_norm q73
                        have hg := slot_at (t := 71) 9 ha (by kernel_rfl) (by kernel_rfl) (by kernel_rfl) e9
                        clear ha hd hst
                        have kk : w1.cell? ⟨g, 1, none⟩ = some (.string xn) := (HC6.out.below hI HC6.out.blk).cell 1 (by decide)
                        exact StepI.pure (v := .string xn) rfl (wanted_at rfl rfl hg) (by go_simp) ⟨rfl, hI⟩
                      · intro us au w1 k13 hlo hhi ha hd hst hI
                        obtain rfl : k13 = 0 := by omega
                        have e10 := hd 10 _ (by kernel_rfl) rfl
                        have e12 := hd 12 _ (by kernel_rfl) rfl
                        have e9 := hd 9 _ (by kernel_rfl) rfl
                        have q72 := slot_at (t := 72) 10 ha (by kernel_rfl) (by kernel_rfl) (by kernel_rfl) e10
                        have p72 := slot_norm q72
                        have q74 := slot_at (t := 74) 12 ha (by kernel_rfl) (by kernel_rfl) (by kernel_rfl) e12
                        have p74 := slot_norm q74
                        have hg := slot_at (t := 71) 9 ha (by kernel_rfl) (by kernel_rfl) (by kernel_rfl) e9
                        clear ha hd hst
                        have kl := HLK.out w1 hI
                        simp only [Int.natCast_add, Int.cast_ofNat_Int] at kl
                        exact StepI.pure (v := .int .i64 ((cn : Int) + 1)) rfl (wanted_at rfl rfl hg) (by go_simp) ⟨rfl, hI⟩
                      · intro us au w1 k14 hlo hhi ha hd hst hI
                        obtain rfl : k14 = 0 := by omega
                        have e13 := hd 13 _ (by kernel_rfl) rfl
                        have e9 := hd 9 _ (by kernel_rfl) rfl
                        have q75 := slot_at (t := 75) 13 ha (by kernel_rfl) (by kernel_rfl) (by kernel_rfl) e13
                        have p75 := slot_norm q75
                        have hg := slot_at (t := 71) 9 ha (by kernel_rfl) (by kernel_rfl) (by kernel_rfl) e9
                        clear ha hd hst
                        exact StepI.pure (v := .bool false) rfl (wanted_at rfl rfl hg) (by go_simp) ⟨rfl, hI⟩
                      · intro us au w1 k15 hlo hhi ha hd hst hI
                        obtain rfl : k15 = 0 := by omega
                        have e9 := hd 9 _ (by kernel_rfl) rfl
                        have e14 := hd 14 _ (by kernel_rfl) rfl
                        have q71 := slot_at (t := 71) 9 ha (by kernel_rfl) (by kernel_rfl) (by kernel_rfl) e9
                        have p71 := slot_norm q71
                        have q76 := slot_at (t := 76) 14 ha (by kernel_rfl) (by kernel_rfl) (by kernel_rfl) e14
                        have p76 := slot_norm q76
                        clear ha hd hst
                        exact StepI.pure (v := .bool false) rfl rfl (by go_simp) ⟨rfl, hI⟩
                      · intro us au w1 k16 hlo hhi ha hd hst hI
                        obtain rfl : k16 = 0 := by omega
                        have e15 := hd 15 _ (by kernel_rfl) rfl
                        have q77 := slot_at (t := 77) 15 ha (by kernel_rfl) (by kernel_rfl) (by kernel_rfl) e15
                        have p77 := slot_norm q77
                        clear ha hd hst
                        exact StepI.pure (v := .bool false) rfl rfl (by go_simp) ⟨rfl, hI⟩
                      · intro us au w1 k17 hlo hhi ha hd hst hI
                        obtain rfl : k17 = 0 := by omega
                        have e16 := hd 16 _ (by kernel_rfl) rfl
                        have q4 := slot_far (t := 4) (v := .pointer (some ⟨h, 0, none⟩)) ha (by kernel_rfl) (by kernel_rfl)
                        have p4 := slot_norm q4
                        have hg := slot_at (t := 78) 16 ha (by kernel_rfl) (by kernel_rfl) (by kernel_rfl) e16
                        clear ha hd hst
                        exact StepI.pure (v := .pointer (some ⟨h, 0, none⟩)) rfl (wanted_at rfl rfl hg) (by go_simp) ⟨rfl, hI⟩
                      · intro us au w1 k18 hlo hhi ha hd hst hI
                        obtain rfl : k18 = 0 := by omega
                        have e17 := hd 17 _ (by kernel_rfl) rfl
                        have e16 := hd 16 _ (by kernel_rfl) rfl
                        have q79 := slot_at (t := 79) 17 ha (by kernel_rfl) (by kernel_rfl) (by kernel_rfl) e17
                        have p79 := slot_norm q79
                        have hg := slot_at (t := 78) 16 ha (by kernel_rfl) (by kernel_rfl) (by kernel_rfl) e16
                        clear ha hd hst
                        have kk : w1.cell? ⟨h, 0, none⟩ = _ := (HST6.out.below hI).ct.cell 0 (by decide)
                        exact StepI.pure (v := .slice (some ⟨eb, eo, none⟩) L.length cv) rfl (wanted_at rfl rfl hg) (by go_simp) ⟨rfl, hI⟩
                      · intro us au w1 k19 hlo hhi ha hd hst hI
                        obtain rfl : k19 = 0 := by omega
                        have e18 := hd 18 _ (by kernel_rfl) rfl
                        have e16 := hd 16 _ (by kernel_rfl) rfl
                        have q80 := slot_at (t := 80) 18 ha (by kernel_rfl) (by kernel_rfl) (by kernel_rfl) e18
                        have p80 := slot_norm q80
                        have hg := slot_at (t := 78) 16 ha (by kernel_rfl) (by kernel_rfl) (by kernel_rfl) e16
                        clear ha hd hst
                        exact StepI.pure (v := .int .i64 (L.length : Int)) rfl (wanted_at rfl rfl hg) (by go_simp) ⟨rfl, hI⟩
                      · intro us au w1 k20 hlo hhi ha hd hst hI
                        obtain rfl : k20 = 0 := by omega
                        have e19 := hd 19 _ (by kernel_rfl) rfl
                        have e16 := hd 16 _ (by kernel_rfl) rfl
                        have q81 := slot_at (t := 81) 19 ha (by kernel_rfl) (by kernel_rfl) (by kernel_rfl) e19
                        have p81 := slot_norm q81
                        have hg := slot_at (t := 78) 16 ha (by kernel_rfl) (by kernel_rfl) (by kernel_rfl) e16
                        clear ha hd hst
                        exact StepI.pure (v := .bool true) rfl (wanted_at rfl rfl hg) (by go_simp) ⟨rfl, hI⟩
                      · intro us au w1 k21 hlo hhi ha hd hst hI
                        obtain rfl : k21 = 0 := by omega
                        have e20 := hd 20 _ (by kernel_rfl) rfl
                        have e16 := hd 16 _ (by kernel_rfl) rfl
                        have q82 := slot_at (t := 82) 20 ha (by kernel_rfl) (by kernel_rfl) (by kernel_rfl) e20
                        have p82 := slot_norm q82
                        have hg := slot_at (t := 78) 16 ha (by kernel_rfl) (by kernel_rfl) (by kernel_rfl) e16
                        clear ha hd hst
                        exact StepI.pure (v := .bool true) rfl (wanted_at rfl rfl hg) (by go_simp) ⟨rfl, hI⟩
                      · intro us au w1 k22 hlo hhi ha hd hst hI
                        obtain rfl : k22 = 0 := by omega
                        have e21 := hd 21 _ (by kernel_rfl) rfl
                        have q4 := slot_far (t := 4) (v := .pointer (some ⟨h, 0, none⟩)) ha (by kernel_rfl) (by kernel_rfl)
                        have p4 := slot_norm q4
                        have hg := slot_at (t := 83) 21 ha (by kernel_rfl) (by kernel_rfl) (by kernel_rfl) e21
                        clear ha hd hst
                        exact StepI.pure (v := .pointer (some ⟨h, 0, none⟩)) rfl (wanted_at rfl rfl hg) (by go_simp) ⟨rfl, hI⟩
                      · intro us au w1 k23 hlo hhi ha hd hst hI
                        obtain rfl : k23 = 0 := by omega
                        have e22 := hd 22 _ (by kernel_rfl) rfl
                        have e21 := hd 21 _ (by kernel_rfl) rfl
                        have q84 := slot_at (t := 84) 22 ha (by kernel_rfl) (by kernel_rfl) (by kernel_rfl) e22
                        have p84 := slot_norm q84
                        have hg := slot_at (t := 83) 21 ha (by kernel_rfl) (by kernel_rfl) (by kernel_rfl) e21
                        clear ha hd hst
                        have kk : w1.cell? ⟨h, 0, none⟩ = _ := (HST6.out.below hI).ct.cell 0 (by decide)
                        exact StepI.pure (v := .slice (some ⟨eb, eo, none⟩) L.length cv) rfl (wanted_at rfl rfl hg) (by go_simp) ⟨rfl, hI⟩
                      · intro us au w1 k24 hlo hhi ha hd hst hI
                        obtain rfl : k24 = 0 := by omega
                        have e21 := hd 21 _ (by kernel_rfl) rfl
                        have q4 := slot_far (t := 4) (v := .pointer (some ⟨h, 0, none⟩)) ha (by kernel_rfl) (by kernel_rfl)
                        have p4 := slot_norm q4
                        have hg := slot_at (t := 83) 21 ha (by kernel_rfl) (by kernel_rfl) (by kernel_rfl) e21
                        clear ha hd hst
                        exact StepI.pure (v := .pointer (some ⟨h, 0, none⟩)) rfl (wanted_at rfl rfl hg) (by go_simp) ⟨rfl, hI⟩
                      · intro us au w1 k25 hlo hhi ha hd hst hI
                        obtain rfl : k25 = 0 := by omega
                        have e24 := hd 24 _ (by kernel_rfl) rfl
                        have e21 := hd 21 _ (by kernel_rfl) rfl
                        have q86 := slot_at (t := 86) 24 ha (by kernel_rfl) (by kernel_rfl) (by kernel_rfl) e24
                        have p86 := slot_norm q86
                        have hg := slot_at (t := 83) 21 ha (by kernel_rfl) (by kernel_rfl) (by kernel_rfl) e21
                        clear ha hd hst
                        have kk : w1.cell? ⟨h, 0, none⟩ = _ := (HST6.out.below hI).ct.cell 0 (by decide)
                        exact StepI.pure (v := .slice (some ⟨eb, eo, none⟩) L.length cv) rfl (wanted_at rfl rfl hg) (by go_simp) ⟨rfl, hI⟩
                      · intro us au w1 k26 hlo hhi ha hd hst hI
                        obtain rfl : k26 = 0 := by omega
                        have e25 := hd 25 _ (by kernel_rfl) rfl
                        have e21 := hd 21 _ (by kernel_rfl) rfl
                        have q87 := slot_at (t := 87) 25 ha (by kernel_rfl) (by kernel_rfl) (by kernel_rfl) e25
                        have p87 := slot_norm q87
                        have hg := slot_at (t := 83) 21 ha (by kernel_rfl) (by kernel_rfl) (by kernel_rfl) e21
                        clear ha hd hst
                        exact StepI.pure (v := .int .i64 (L.length : Int)) rfl (wanted_at rfl rfl hg) (by go_simp) ⟨rfl, hI⟩
                      · intro us au w1 k27 hlo hhi ha hd hst hI
                        obtain rfl : k27 = 0 := by omega
                        have e26 := hd 26 _ (by kernel_rfl) rfl
                        have e21 := hd 21 _ (by kernel_rfl) rfl
                        have q88 := slot_at (t := 88) 26 ha (by kernel_rfl) (by kernel_rfl) (by kernel_rfl) e26
                        have p88 := slot_norm q88
                        have hg := slot_at (t := 83) 21 ha (by kernel_rfl) (by kernel_rfl) (by kernel_rfl) e21
                        clear ha hd hst
                        exact StepI.pure (v := .int .i64 (lq : Int)) rfl (wanted_at rfl rfl hg) (by go_simp) ⟨rfl, hI⟩
                      · intro us au w1 k28 hlo hhi ha hd hst hI
                        obtain rfl : k28 = 0 := by omega
                        have e23 := hd 23 _ (by kernel_rfl) rfl
                        have e27 := hd 27 _ (by kernel_rfl) rfl
                        have e21 := hd 21 _ (by kernel_rfl) rfl
                        have q85 := slot_at (t := 85) 23 ha (by kernel_rfl) (by kernel_rfl) (by kernel_rfl) e23
                        have p85 := slot_norm q85
                        have q89 := slot_at (t := 89) 27 ha (by kernel_rfl) (by kernel_rfl) (by kernel_rfl) e27
                        have p89 := slot_norm q89
                        have hg := slot_at (t := 83) 21 ha (by kernel_rfl) (by kernel_rfl) (by kernel_rfl) e21
                        clear ha hd hst
                        exact StepI.pure (v := .pointer (some ⟨eb, eo + lq * 3, none⟩)) rfl (wanted_at rfl rfl hg) (by go_simp) ⟨rfl, hI⟩
                      · intro us au w1 k29 hlo hhi ha hd hst hI
                        obtain rfl : k29 = 0 := by omega
                        have e28 := hd 28 _ (by kernel_rfl) rfl
                        have e21 := hd 21 _ (by kernel_rfl) rfl
                        have q90 := slot_at (t := 90) 28 ha (by kernel_rfl) (by kernel_rfl) (by kernel_rfl) e28
                        have p90 := slot_norm q90
                        have hg := slot_at (t := 83) 21 ha (by kernel_rfl) (by kernel_rfl) (by kernel_rfl) e21
                        clear ha hd hst
                        have ky0 := HY0.out w1 hI
                        have ky1 := HY1.out w1 hI
                        have ky2 := HY2.out w1 hI
                        exact StepI.pure (v := .agg #[.string y.m, .string y.n, .string y.i]) rfl (wanted_at rfl rfl hg) (by go_simp) ⟨rfl, hI⟩
                      · intro us au w1 k30 hlo hhi ha hd hst hI
                        obtain rfl : k30 = 0 := by omega
                        have e21 := hd 21 _ (by kernel_rfl) rfl
                        have q8 := slot_far (t := 8) (v := .pointer (some ⟨g, 0, none⟩)) ha (by kernel_rfl) (by kernel_rfl)
                        have p8 := slot_norm q8
                        have hg := slot_at (t := 83) 21 ha (by kernel_rfl) (by kernel_rfl) (by kernel_rfl) e21
                        clear ha hd hst
                        have hcx := HC6.out.below hI HC6.out.blk
                        have kx0 : w1.cell? ⟨g, 0, none⟩ = some (.string xm) := hcx.cell 0 (by decide)
                        have kx1 : w1.cell? ⟨g, 1, none⟩ = some (.string xn) := hcx.cell 1 (by decide)
                        have kx2 : w1.cell? ⟨g, 2, none⟩ = some (.string xi) := hcx.cell 2 (by decide)
                        exact StepI.pure (v := .agg #[.string xm, .string xn, .string xi]) rfl (wanted_at rfl rfl hg) (by go_simp) ⟨rfl, hI⟩
                      · intro us au w1 k31 hlo hhi ha hd hst hI
                        obtain rfl : k31 = 0 := by omega
                        have e29 := hd 29 _ (by kernel_rfl) rfl
                        have e30 := hd 30 _ (by kernel_rfl) rfl
                        have e21 := hd 21 _ (by kernel_rfl) rfl
                        have q91 := slot_at (t := 91) 29 ha (by kernel_rfl) (by kernel_rfl) (by kernel_rfl) e29
                        have p91 := slot_norm q91
                        have q92 := slot_at (t := 92) 30 ha (by kernel_rfl) (by kernel_rfl) (by kernel_rfl) e30
                        have p92 := slot_norm q92
                        have hg := slot_at (t := 83) 21 ha (by kernel_rfl) (by kernel_rfl) (by kernel_rfl) e21
                        clear ha hd hst
                        refine StepI.call (f := 107) (args := #[.agg #[.string y.m, .string y.n, .string y.i], .agg #[.string xm, .string xn, .string xi]]) rfl (wanted_at rfl rfl hg) (by go_simp) ?_
                        refine (HLS.out w1).mono ?_
                        rintro e w5 ⟨rfl, hb⟩
                        exact ⟨_, rfl, rfl, Below.trans hI (hb.mono (Below.size hI))⟩
                      · intro us au w1 k32 hlo hhi ha hd hst hI
                        obtain rfl : k32 = 0 := by omega
                        have e31 := hd 31 _ (by kernel_rfl) rfl
                        have e21 := hd 21 _ (by kernel_rfl) rfl
                        have q93 := slot_at (t := 93) 31 ha (by kernel_rfl) (by kernel_rfl) (by kernel_rfl) e31
                        have p93 := slot_norm q93
                        have hg := slot_at (t := 83) 21 ha (by kernel_rfl) (by kernel_rfl) (by kernel_rfl) e21
                        clear ha hd hst
                        exact StepI.pure (v := .bool (!lb)) rfl (wanted_at rfl rfl hg) (by go_simp) ⟨rfl, hI⟩
                      · intro us au w1 k33 hlo hhi ha hd hst hI
                        obtain rfl : k33 = 0 := by omega
                        have e21 := hd 21 _ (by kernel_rfl) rfl
                        have e32 := hd 32 _ (by kernel_rfl) rfl
                        have e16 := hd 16 _ (by kernel_rfl) rfl
                        have q83 := slot_at (t := 83) 21 ha (by kernel_rfl) (by kernel_rfl) (by kernel_rfl) e21
                        have p83 := slot_norm q83
                        have q94 := slot_at (t := 94) 32 ha (by kernel_rfl) (by kernel_rfl) (by kernel_rfl) e32
                        have p94 := slot_norm q94
                        have hg := slot_at (t := 78) 16 ha (by kernel_rfl) (by kernel_rfl) (by kernel_rfl) e16
                        clear ha hd hst
                        exact StepI.pure (v := .bool (!lb)) rfl (wanted_at rfl rfl hg) (by go_simp) ⟨rfl, hI⟩
                      · intro us au w1 k34 hlo hhi ha hd hst hI
                        obtain rfl : k34 = 0 := by omega
                        have e16 := hd 16 _ (by kernel_rfl) rfl
                        have e33 := hd 33 _ (by kernel_rfl) rfl
                        have q78 := slot_at (t := 78) 16 ha (by kernel_rfl) (by kernel_rfl) (by kernel_rfl) e16
                        have p78 := slot_norm q78
                        have q95 := slot_at (t := 95) 33 ha (by kernel_rfl) (by kernel_rfl) (by kernel_rfl) e33
                        have p95 := slot_norm q95
                        clear ha hd hst
                        exact StepI.pure (v := .bool (!lb)) rfl rfl (by go_simp) ⟨rfl, hI⟩
                     case done =>
                      intro us w1 hI hd
                      have e34 := hd 34 _ (by decide) rfl
                      have HBQ := Lib.hid hI
                      clear hd hI
                      simp only [putAll]
                      go_simp
                      go_wp2
                      go_meet
                      exact ⟨⟨_, rfl, by rw [HCD.out, HLO.out]; simp⟩, HBQ.out⟩
               -- }DONE
              case rest =>
               have hxne : xn.data.toList = (l.drop p1).take ml := by rw [HXV.out, bk_list]
               have HENT : Hid (entU l = if pu = true ∧ zu = false then some (⟨xm, xn, xi⟩, l.drop p3) else none) := Lib.hid (by
                rw [HEY.out, ← HXN.out.2.1, ← HXN.out.2.2, ← HXM.out, ← HXV.out, ← HXI.out, ← hxne, HPU.out, ← zero_hexS, ← HXI.out, HZU.out, ← HPJ.out.2.2]
                by_cases hc : pu = true ∧ zu = false
                · rw [if_pos hc, if_pos ⟨HMODE.out, hc⟩]
                · rw [if_neg hc, if_neg (fun h => hc h.2)])
               have hmemc : 0 < cn ↔ xn.data.toList ∈ L.map (fun y => y.n.data.toList) := by
                rw [HCN.out, List.count_pos_iff]
                unfold namesR
                rw [List.mem_reverse]
               have HMEM := Lib.hid hmemc
               have HSTEP : Hid (treeF l0 = if (!pu || (zu || (decide (0 < cn) || !lastOk L ⟨xm, xn, xi⟩))) = true then none else treeU (f - 1) (l.drop p3) (L ++ [⟨xm, xn, xi⟩])) := Lib.hid (by
                obtain ⟨f', rfl⟩ : ∃ f', f = f' + 1 := ⟨f - 1, by have := HN.out; omega⟩
                rw [HTF.out, treeU, if_neg (by intro h; rw [h] at h0; exact h0 rfl), HENT.out]
                cases pu
                · rfl
                · cases zu
                  · show (if xn.data.toList ∈ L.map (fun y => y.n.data.toList) ∨ lastOk L ⟨xm, xn, xi⟩ = false then none else treeU f' (l.drop p3) (L ++ [⟨xm, xn, xi⟩])) = _
                    by_cases hm : 0 < cn
                    · rw [if_pos (.inl (HMEM.out.1 hm)), if_pos (by rw [decide_eq_true hm]; rfl)]
                    · cases hlo : lastOk L ⟨xm, xn, xi⟩
                      · rw [if_pos (.inr rfl), if_pos (by simp)]
                      · rw [if_neg (by rintro (h | h); exact hm (HMEM.out.2 h); exact absurd h (by decide)), if_neg (by rw [decide_eq_false hm]; decide)]
                        rfl
                  · rfl)
               clear hmemc hxne
               obtain ⟨⟨bd, rfl, hbd⟩, hbw⟩ := hcut
               rw [← hbd] at HSTEP
               have HBW := Lib.hid hbw
               clear hbd hbw
               cases bd
               case true =>
                have HNO : Hid (treeF l0 = none) := Lib.hid (by rw [HSTEP.out, if_pos rfl])
                go_wp2
                go_ret2
                exact ⟨by rw [HH.out]; exact (HST6.out.below HBW.out).low, .inl ⟨HNO.out, rfl⟩⟩
               case false =>
                have HNXT : Hid (treeF l0 = treeU (f - 1) (l.drop p3) (L ++ [⟨xm, xn, xi⟩])) := Lib.hid (by rw [HSTEP.out, if_neg (by decide)])
                obtain ⟨Av, cv, rfl⟩ := HST6.out.own.shape
                have HST7 := Lib.hid (HST6.out.below HBW.out)
                have HC7 := Lib.hid (HC6.out.below HBW.out HC6.out.blk)
                have k0 : wc.cell? ⟨h, 0, none⟩ = some (.slice Av L.length cv) := HST7.out.ct.cell 0 (by decide)
                have kx0 : wc.cell? ⟨g, 0, none⟩ = some (.string xm) := HC7.out.cell 0 (by decide)
                have kx1 : wc.cell? ⟨g, 1, none⟩ = some (.string xn) := HC7.out.cell 1 (by decide)
                have kx2 : wc.cell? ⟨g, 2, none⟩ = some (.string xi) := HC7.out.cell 2 (by decide)
                have hl8 : Below wc.heap.size wc (wc.alloc (.cells #[.string xm, .string xn, .string xi] 116)) := (Below.refl _ _).alloc (Nat.le_refl _) _
                have HST8 := Lib.hid (HST7.out.below hl8)
                have HSRC := Lib.hid (Src.ent (P := Tryz.prog) wc ⟨xm, xn, xi⟩ 116)
                have hbs : g1 + 1 ≤ (wc.alloc (.cells #[.string xm, .string xn, .string xi] 116)).heap.size := HST8.out.seen.lt
                have hbyte : (L.length + 1) * 48 ≤ 140737488355328 := by have := HN.out; have := HS.out; omega
                have hmax : L.length + 1 ≤ maxLen := by unfold maxLen; omega
                have hlt1 : h < g1 + 1 := by have := HST8.out.lt; omega
                have g3 : p3 ≤ l.length := by have := HOK.out.2.2.2; have := HPJ.out.2.2; omega
                clear hl8
                go_upto_region 20 with (at_builtin; go_loud (refine wpList_append_S rfl (.tmp 98) (.tmp 100) 65 65 rfl i0 (.agg #[.string ⟨#[]⟩, .string ⟨#[]⟩, .string ⟨#[]⟩]) 48 (.slice 116) Tryz.underlying65 Tryz.underlying65 (fun _ h => by cases h) hi hz0 hz1 hz2 rfl rfl rfl HST8.out.own HSRC.out hmax hbyte hbs ?_; intro A9 c9 w9 ho9 hg9 hw9; have hst9 := HST8.out.grow hg9; have k9 : w9.cell? ⟨h, 0, none⟩ = some (.slice Av L.length cv) := hst9.2.1.cell 0 (by decide); have f9 : w9.frozen? ⟨h, 0, none⟩ = false := hst9.2.1.frozen 0; have HST9 := Lib.hid hst9; clear hst9))
                have hlen1 : (L ++ [(⟨xm, xn, xi⟩ : Ent)]).length = L.length + 1 := by simp
                have HST10 : Hid (TrSt w (w9.setCell ⟨h, 0, none⟩ (.slice A9 (L.length + 1) c9)) h g1 (.slice A9 (L.length + 1) c9) (L ++ [⟨xm, xn, xi⟩]) (namesR (L ++ [⟨xm, xn, xi⟩]))) := Lib.hid (by
                 obtain ⟨h1, h2, h3⟩ := HST9.out
                 refine ⟨h1.setCell (p := ⟨h, 0, none⟩) (Nat.le_refl _) _, (h2.set 0 _).congr (fun i hi => by rw [if_pos (by omega)]), HST8.out.lt, ?_, ?_⟩
                 · rw [namesR_snoc]
                   exact h3.setCell (a := ⟨h, 0, none⟩) (by show g1 ≠ h; have := HST8.out.lt; omega) _
                 · rw [hlen1, entVs_snoc]
                   exact ho9.setLow (a := ⟨h, 0, none⟩) hlt1 _)
                have HYN : Hid (∀ y ∈ L ++ [(⟨xm, xn, xi⟩ : Ent)], y.n.size ≤ l0.length) := Lib.hid (fun y hy => by
                 rcases List.mem_append.1 hy with hy | hy
                 · exact HYS.out y hy
                 · rw [List.mem_singleton.1 hy]
                   show xn.size ≤ _
                   have := HZN.out
                   have := HN.out
                   omega)
                have hdl : (l.drop p3).length = l.length - p3 := List.length_drop ..
                have HNN := Lib.hid HN.out
                have HCC : Hid (l.length ≤ c ∧ c ≤ 9223372036854775807 ∧ p3 ≤ l.length ∧ 22 ≤ p3) := Lib.hid ⟨hlc, hcm, g3, by have := HPJ.out.2.2; have := HOK.out.2.2.1; omega⟩
                have HL1 := Lib.hid hlen1
                clear k0 kx0 kx1 kx2 ho9 hg9 hw9 k9 f9 HST9 HST8 HSRC HST7 HC7 hbyte hmax hbs
                generalize w9.setCell ⟨h, 0, none⟩ (.slice A9 (L.length + 1) c9) = w10 at *
                by_cases hcp : c = p3
                · have HIN : Hid (Ints .u8 w (some ⟨bb, oo, none⟩) (bytesOf (bk (l.drop p3)))) := Lib.hid (by
                   rw [List.drop_eq_nil_of_le (by omega)]
                   exact Ints.nil)
                  go_wp2
                  go_roundw
                  case rel => exact ⟨l.drop p3, L ++ [⟨xm, xn, xi⟩], f - 1, _, some ⟨bb, oo, none⟩, 0, by rw [hdl], HIN.out, by rw [hdl]; have := HCC.out; omega, by have := HCC.out; omega, HST10.out, by rw [hdl]; have := HCC.out; have := HNN.out; omega, by rw [hdl, HL1.out]; have := HCC.out; have := HNN.out; omega, HNXT.out, HYN.out⟩
                  case measure => have := HCC.out; simp [slLen]; omega
                · have HIN : Hid (Ints .u8 w (some ⟨bb, oo + p3, none⟩) (bytesOf (bk (l.drop p3)))) := Lib.hid (by rw [bytesBk_drop]; exact HIW.out.dropU p3)
                  go_wp2
                  go_roundw
                  case rel => exact ⟨l.drop p3, L ++ [⟨xm, xn, xi⟩], f - 1, _, some ⟨bb, oo + p3, none⟩, c - p3, by rw [hdl], HIN.out, by rw [hdl]; have := HCC.out; omega, by have := HCC.out; omega, HST10.out, by rw [hdl]; have := HCC.out; have := HNN.out; omega, by rw [hdl, HL1.out]; have := HCC.out; have := HNN.out; omega, HNXT.out, HYN.out⟩
                  case measure => have := HCC.out; simp [slLen]; omega
           · have HNO : Hid (treeF l0 = none) := Lib.hid (HNX.out (by rw [HEY.out, if_neg (fun h => hmode h.1)]))
             have hmode' : modeB md = false := by simpa using hmode
             unfold modeB at hmode'
             simp only [Bool.or_eq_false_iff] at hmode'
             obtain ⟨m1, m2, m3, m4, m5⟩ := hmode'
             have q11 : (xm.toList == [49, 48, 48, 54, 52, 52]) = false := by rw [htl]; exact m1
             have q12 : (xm.toList == [49, 48, 48, 55, 53, 53]) = false := by rw [htl]; exact m2
             have q13 : (xm.toList == [49, 50, 48, 48, 48, 48]) = false := by rw [htl]; exact m3
             have q14 : (xm.toList == [52, 48, 48, 48, 48]) = false := by rw [htl]; exact m4
             have q15 : (xm.toList == [49, 54, 48, 48, 48, 48]) = false := by rw [htl]; exact m5
             clear hmode m1 m2 m3 m4 m5 htl HMD HEY HNX
             go_wp2
             go_ret2
             exact ⟨by rw [HH.out]; exact HST6.out.low, .inl ⟨HNO.out, rfl⟩⟩
end Go.Proofs.YtihanglnjghcfaaGreatDoor
