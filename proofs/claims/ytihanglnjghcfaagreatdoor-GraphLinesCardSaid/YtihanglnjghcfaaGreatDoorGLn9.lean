/- object.Parse at each kind (printed by genobl2.py). -/
import Derived.Test.YtihanglnjghcfaaGreatDoorGLn8
import Derived.Test.YtihanglnjghcfaaGreatDoorGLn4
import Derived.Test.YtihanglnjghcfaaGreatDoorGLn3
import Derived.Test.YtihanglnjghcfaaGreatDoorGLn2
namespace Go.Proofs.YtihanglnjghcfaaGreatDoor
open Go.RowKit
set_option linter.unusedVariables false
set_option linter.unusedSimpArgs false

def PTree (l : List UInt8) (w : World) (e : Ending) (w' : World) : Prop :=
 Below w.heap.size w w' ∧ ((treeF l = none ∧ e = .returned (.tuple #[.nilIface, .int .i64 3])) ∨
  ∃ L A, treeF l = some L ∧ e = .returned (.tuple #[.iface 164 (.agg #[.slice A L.length L.length]), .int .i64 0]) ∧ OwnS w' w.heap.size 116 3 (.slice A L.length L.length) L.length (entVs L))
def PCommit (l : List UInt8) (w : World) (e : Ending) (w' : World) : Prop :=
 Below w.heap.size w w' ∧ ((commitF l = none ∧ e = .returned (.tuple #[.nilIface, .int .i64 3])) ∨
  ∃ r A, commitF l = some r ∧ e = .returned (.tuple #[.iface 103 (.agg #[.string (bk r.t), .slice A r.P.length r.P.length, .string (bk r.a), .string (bk r.c), .string (bk r.m)]), .int .i64 0]) ∧ OwnS w' w.heap.size 9 1 (.slice A r.P.length r.P.length) r.P.length (strVs r.P))
def PTag (l : List UInt8) (w : World) (e : Ending) (w' : World) : Prop :=
 Below w.heap.size w w' ∧ ((tagF l = none ∧ e = .returned (.tuple #[.nilIface, .int .i64 3])) ∨
  ∃ r, tagF l = some r ∧ e = .returned (.tuple #[.iface 96 (.agg #[.string (bk r.o), .int .i64 (r.k : Int), .string (bk r.n), .string (bk r.g), .string (bk r.m)]), .int .i64 0]))
def PBlob (l : List UInt8) (w : World) (e : Ending) (w' : World) : Prop :=
 Below w.heap.size w w' ∧ ∃ A, e = .returned (.tuple #[.iface 148 (.agg #[.slice A l.length l.length]), .int .i64 0]) ∧ OwnS w' w.heap.size 5 1 (.slice A l.length l.length) l.length ((bytesOf (bk l)).map (Value.int .u8))
set_option maxRecDepth 100000 in
set_option maxHeartbeats 1000000 in
theorem parseTree_any (A : Option Addr) (n c : Nat) (l : List UInt8) (w : World) (hE : EnvO w) (hI : Ints .u8 w A (bytesOf (bk l))) (hn : l.length = n) (hnc : n ≤ c) (hcm : c ≤ 9223372036854775807) (hs : n ≤ 8796093022000) :
 Calls Tryz.prog 61 #[.int .i64 2, .slice A n c] w (PTree l w) := by
 have HC := Lib.hid (tree_any A n c l w hE hI hn hnc hcm hs)
 unfold TreePost at HC
 clear hE hI hn hs
 go_enter Tryz.func61, Tryz.ntmps61
 go_wp2_with fail
 refine HC.out.mono ?_
 rintro e w1 ⟨hb, ⟨hno, rfl⟩ | ⟨L, A2, hyes, rfl, ho⟩⟩
 · have HB := Lib.hid hb
   have HNO := Lib.hid hno
   clear hb hno
   go_wp2
   go_ret2
   exact ⟨HB.out, .inl ⟨HNO.out, rfl⟩⟩
 · have HB := Lib.hid hb
   have HY := Lib.hid hyes
   have HO := Lib.hid ho
   clear hb hyes ho
   go_wp2
   go_ret2
   exact ⟨HB.out, .inr ⟨L, A2, HY.out, rfl, HO.out⟩⟩
set_option maxRecDepth 100000 in
set_option maxHeartbeats 1000000 in
theorem parseCommit_any (A : Option Addr) (n c : Nat) (l : List UInt8) (w : World) (hE : EnvO w) (hI : Ints .u8 w A (bytesOf (bk l))) (hn : l.length = n) (hnc : n ≤ c) (hcm : c ≤ 9223372036854775807) (hs : n ≤ 8796093022000) :
 Calls Tryz.prog 61 #[.int .i64 1, .slice A n c] w (PCommit l w) := by
 have HC := Lib.hid (commit_any (bk l) w hE (by rw [bk_size, hn]; exact hs))
 unfold CommitPost at HC
 rw [bk_list] at HC
 have hcv := run_strU A n c l w hI hn
 clear hE hI hn hs
 go_enter Tryz.func61, Tryz.ntmps61
 go_wp2_with fail
 refine HC.out.mono ?_
 rintro e w1 ⟨hb, ⟨hno, rfl⟩ | ⟨r, A2, hyes, rfl, ho⟩⟩
 · have HB := Lib.hid hb
   have HNO := Lib.hid hno
   clear hb hno
   go_wp2
   go_ret2
   exact ⟨HB.out, .inl ⟨HNO.out, rfl⟩⟩
 · have HB := Lib.hid hb
   have HY := Lib.hid hyes
   have HO := Lib.hid ho
   clear hb hyes ho
   go_wp2
   go_ret2
   exact ⟨HB.out, .inr ⟨r, A2, HY.out, rfl, HO.out⟩⟩
set_option maxRecDepth 100000 in
set_option maxHeartbeats 1000000 in
theorem parseTag_any (A : Option Addr) (n c : Nat) (l : List UInt8) (w : World) (hE : EnvO w) (hI : Ints .u8 w A (bytesOf (bk l))) (hn : l.length = n) (hnc : n ≤ c) (hcm : c ≤ 9223372036854775807) (hs : n ≤ 8796093022000) :
 Calls Tryz.prog 61 #[.int .i64 4, .slice A n c] w (PTag l w) := by
 have HC := Lib.hid (tag_any (bk l) w hE (by rw [bk_size, hn]; exact hs))
 unfold TagPost at HC
 rw [bk_list] at HC
 have hcv := run_strU A n c l w hI hn
 clear hE hI hn hs
 go_enter Tryz.func61, Tryz.ntmps61
 go_wp2_with fail
 refine HC.out.mono ?_
 rintro e w1 ⟨hb, ⟨hno, rfl⟩ | ⟨r, hyes, rfl⟩⟩
 · have HB := Lib.hid hb
   have HNO := Lib.hid hno
   clear hb hno
   go_wp2
   go_ret2
   exact ⟨HB.out, .inl ⟨HNO.out, rfl⟩⟩
 · have HB := Lib.hid hb
   have HY := Lib.hid hyes
   clear hb hyes
   go_wp2
   go_ret2
   exact ⟨HB.out, .inr ⟨r, HY.out, rfl⟩⟩
set_option maxRecDepth 100000 in
set_option maxHeartbeats 1000000 in
theorem parseBlob_any (A : Option Addr) (n c : Nat) (l : List UInt8) (w : World) (hE : EnvO w) (hI : Ints .u8 w A (bytesOf (bk l))) (hn : l.length = n) (hnc : n ≤ c) (hcm : c ≤ 9223372036854775807) (hs : n ≤ 8796093022000) (hA : A = none → n = 0) :
 Calls Tryz.prog 61 #[.int .i64 3, .slice A n c] w (PBlob l w) := by
 have HC := Lib.hid (clone_any A n c (bytesOf (bk l)) w hI (by rw [bytesOf_len, bk_size]; exact hn) (by omega) hA)
 have HN := Lib.hid hn
 clear hE hI hn hs
 go_enter Tryz.func61, Tryz.ntmps61
 go_wp2_with fail
 refine HC.out.mono ?_
 rintro e w1 ⟨A2, c2, rfl, ho, hb⟩
 have hcp := ho.cap
 have hcm2 := ho.capm
 have HO := Lib.hid ho
 have HB := Lib.hid hb
 clear ho hb
 go_wp2_with (go_at_call 82; refine (clip_any _ _ _ _ hcp hcm2).mono ?_; rintro e w9 ⟨rfl, rfl⟩)
 go_ret2
 exact ⟨HB.out, A2, by rw [HN.out]; rfl, by rw [HN.out]; exact HO.out.clip⟩
set_option maxRecDepth 100000 in
theorem parseNone_any (kd : Int) (v : Value) (w : World) (hk : kd < 1 ∨ 4 < kd) : Calls Tryz.prog 61 #[.int .i64 kd, v] w fun e w' => e = .returned (.tuple #[.nilIface, .int .i64 1]) ∧ w' = w := by
 have e1 : (kd == 3) = false := by rw [beq_eq_false_iff_ne]; omega
 have e2 : (kd == 2) = false := by rw [beq_eq_false_iff_ne]; omega
 have e3 : (kd == 1) = false := by rw [beq_eq_false_iff_ne]; omega
 have e4 : (kd == 4) = false := by rw [beq_eq_false_iff_ne]; omega
 clear hk
 go_enter Tryz.func61, Tryz.ntmps61
 go_wp2
 go_ret2
 exact ⟨rfl, rfl⟩
end Go.Proofs.YtihanglnjghcfaaGreatDoor
namespace Go.Proofs.YtihanglnjghcfaaGreatDoor
open Go.RowKit
set_option linter.unusedVariables false
set_option linter.unusedSimpArgs false

structure Lk where
 id : ByteArray
 k : Int
def lkV (x : Lk) : List Value := [.string x.id, .int .i64 x.k]
def lkVs (K : List Lk) : List Value := K.flatMap lkV
theorem lkVs_snoc (K : List Lk) (x : Lk) : lkVs (K ++ [x]) = lkVs K ++ lkV x := by unfold lkVs; rw [List.flatMap_append]; simp
theorem OwnS.clipN {w : World} {base size : Nat} {e : TypeId} {A : Option Addr} {n c : Nat} {xs : List Value} (h : OwnS w base e size (.slice A n c) n xs) : OwnS w base e size (.slice A n n) n xs := by
 refine ⟨h.1, ?_⟩
 rcases h.2 with ⟨hv, rfl⟩ | ⟨g, off, cap, cur, hv, hb, hg, hn, hm, hs, ht⟩
 · injection hv with hA _ hc
   subst hA
   exact .inl ⟨rfl, rfl⟩
 · injection hv with hA _ hc
   subst hA; subst hc
   exact .inr ⟨g, off, n, cur, rfl, hb, hg, Nat.le_refl _, by omega, by have := Nat.mul_le_mul_right size hn; omega, ht⟩
theorem OwnS.new2 (w : World) (base : Nat) (hb : base ≤ w.heap.size) (a b : Value) (t : TypeId) : OwnS (w.alloc (.cells #[a, b] t)) base t 2 (.slice (some ⟨w.heap.size, 0, none⟩) 1 1) 1 [a, b] :=
 ⟨rfl, .inr ⟨w.heap.size, 0, 1, #[a, b], rfl, hb, ⟨_, heap_alloc_new w _, .inl (Nat.le_refl _)⟩, Nat.le_refl _, by unfold maxLen; omega, by simp, by simp⟩⟩
theorem Src.lk {P : Program} (w : World) (x : Lk) (t : TypeId) : Src P (w.alloc (.cells #[.string x.id, .int .i64 x.k] t)) 2 (.slice (some ⟨w.heap.size, 0, none⟩) 1 1) 1 (lkV x) :=
 Src.vals rfl (by intro u hu; simp [lkV] at hu; rcases hu with rfl | rfl <;> rfl) (fun _ => ⟨_, rfl, World.news_of_block (heap_alloc_new w _)⟩)
theorem info_lk : (Tryz.prog.info? 73).map (fun i => (i.zero, i.size, i.bytes)) = some (some (.agg #[.string ⟨#[]⟩, .int .i64 0]), 2, 24) := by kernel_rfl
/-- What Links answers. -/
def LinksPost (K : List Lk) (w : World) (e : Ending) (w' : World) : Prop :=
 Below w.heap.size w w' ∧ ∃ A, e = .returned (.slice A K.length K.length) ∧ OwnS w' w.heap.size 73 2 (.slice A K.length K.length) K.length (lkVs K)
set_option maxRecDepth 100000 in
theorem clipLk_any (A : Option Addr) (n c : Nat) (w : World) (hn : n ≤ c) (hc : c ≤ 9223372036854775807) :
 Calls Tryz.prog 187 #[.slice A n c] w fun e w' => e = .returned (.slice A n n) ∧ w = w' := by
 have h0 : (n : Int) ≤ c := by omega
 go_enter Tryz.func187, Tryz.ntmps187
 go_wp2
 go_ret
 exact ⟨rfl, rfl⟩
theorem linksBlob_any (v : Value) (w : World) : Calls Tryz.prog 190 #[.agg #[v]] w (LinksPost [] w) := by
 go_enter Tryz.func190, Tryz.ntmps190
 go_wp2
 go_ret
 exact ⟨(Below.refl _ _).alloc (Nat.le_refl _) _, none, rfl, OwnS.nil _ _ _ _⟩
set_option maxRecDepth 100000 in
theorem linksTag_any (o : ByteArray) (k : Int) (v2 v3 v4 : Value) (w : World) : Calls Tryz.prog 183 #[.agg #[.string o, .int .i64 k, v2, v3, v4]] w (LinksPost [⟨o, k⟩] w) := by
 have hl0 : Below w.heap.size w (w.alloc (.cells #[.string o, .int .i64 k, v2, v3, v4] 96)) := (Below.refl _ _).alloc (Nat.le_refl _) _
 have k0 : (w.alloc (.cells #[.string o, .int .i64 k, v2, v3, v4] 96)).cell? ⟨w.heap.size, 0, none⟩ = some (.string o) := by rw [World.cell?_alloc_at _ _ _ _ (by simp)]; rfl
 have k1 : (w.alloc (.cells #[.string o, .int .i64 k, v2, v3, v4] 96)).cell? ⟨w.heap.size, 1, none⟩ = some (.int .i64 k) := by rw [World.cell?_alloc_at _ _ _ _ (by simp)]; rfl
 have HL := Lib.hid hl0
 go_enter Tryz.func183, Tryz.ntmps183
 go_upto_region 1 with (fail)
 generalize w.alloc (.cells #[.string o, .int .i64 k, v2, v3, v4] 96) = w0 at *
 clear hl0
 go_wp2
 go_ret
 refine ⟨HL.out.alloc HL.out.size _, some ⟨w0.heap.size, 0, none⟩, rfl, ?_⟩
 exact OwnS.new2 w0 _ HL.out.size _ _ _
/-- A commit's. -/
def comK (t : ByteArray) (P : List ByteArray) : List Lk := ⟨t, 2⟩ :: P.map fun p => ⟨p, 1⟩
theorem comK_succ {t p : ByteArray} {P : List ByteArray} {k : Nat} (h : P[k]? = some p) : comK t (P.take (k + 1)) = comK t (P.take k) ++ [⟨p, 1⟩] := by
 unfold comK
 rw [List.take_add_one, h]
 simp
set_option maxRecDepth 100000 in
set_option maxHeartbeats 2000000 in
theorem linksCommit_any (t : ByteArray) (A : Option Addr) (N cP : Nat) (P : List ByteArray) (v2 v3 v4 : Value) (w : World) (hS : StrsAt w A P) (hN : P.length = N) (hNb : N ≤ 1099511627776) :
 Calls Tryz.prog 186 #[.agg #[.string t, .slice A N cP, v2, v3, v4]] w (LinksPost (comK t P) w) := by
 obtain ⟨i0, hi, hz0, hz1, hz2⟩ := info_parts info_lk
 have HN := Lib.hid hN
 have hl0 : Below w.heap.size w (w.alloc (.cells #[.string t, .slice A N cP, v2, v3, v4] 103)) := (Below.refl _ _).alloc (Nat.le_refl _) _
 have k0 : (w.alloc (.cells #[.string t, .slice A N cP, v2, v3, v4] 103)).cell? ⟨w.heap.size, 0, none⟩ = some (.string t) := by rw [World.cell?_alloc_at _ _ _ _ (by simp)]; rfl
 have hk1 : (w.alloc (.cells #[.string t, .slice A N cP, v2, v3, v4] 103)).cell? ⟨w.heap.size, 1, none⟩ = some (.slice A N cP) := by rw [World.cell?_alloc_at _ _ _ _ (by simp)]; rfl
 have HG : Hid (w.heap.size < (w.alloc (.cells #[.string t, .slice A N cP, v2, v3, v4] 103)).heap.size) := Lib.hid (by simp)
 have HL := Lib.hid hl0
 have HS := Lib.hid (hS.below hl0)
 have HK1 := Lib.hid hk1
 clear hS hN hl0 hk1
 go_enter Tryz.func186, Tryz.ntmps186
 go_upto_region 1 with (fail)
 generalize w.alloc (.cells #[.string t, .slice A N cP, v2, v3, v4] 103) = w0 at *
 go_upto_region 2 with (fail)
 have ho1 := OwnS.new2 w0 w0.heap.size (Nat.le_refl _) (.string t) (.int .i64 2) 73
 have hl1 : Below w0.heap.size w0 (w0.alloc (.cells #[.string t, .int .i64 2] 73)) := (Below.refl _ _).alloc (Nat.le_refl _) _
 have k1 : (w0.alloc (.cells #[.string t, .int .i64 2] 73)).cell? ⟨w.heap.size, 1, none⟩ = some (.slice A N cP) := (hl1.cell (p := ⟨w.heap.size, 1, none⟩) HG.out).trans HK1.out
 have HO1 := Lib.hid ho1
 have HL1 := Lib.hid hl1
 clear ho1 hl1 k0
 generalize w0.alloc (.cells #[.string t, .int .i64 2] 73) = w1 at *
 generalize Value.slice (some ⟨w0.heap.size, 0, none⟩) 1 1 = v1 at *
 go_wp2
 go_loopw [13, 3] (fun vi vo wr => ∃ (k : Nat) (v : Value), vi = .int .i64 k ∧ v = vo ∧ k ≤ N ∧ OwnS wr w0.heap.size 73 2 v (comK t (P.take k)).length (lkVs (comK t (P.take k))) ∧ Below w0.heap.size w0 wr) (fun vi _ _ => N - (intOf vi).toNat)
 case atStart => exact ⟨0, _, rfl, rfl, Nat.zero_le _, HO1.out, HL1.out⟩
 case round =>
  clear HO1 HL1 k1
  obtain ⟨k, v, rfl, rfl, hk, ho, hb⟩ := hrel
  obtain ⟨Av, cv, rfl⟩ := ho.shape
  have HB := Lib.hid hb
  have hlen : (comK t (P.take k)).length = k + 1 := by unfold comK; simp; rw [HN.out]; omega
  by_cases hlt : k < N
  · obtain ⟨p, hp⟩ : ∃ p, P[k]? = some p := ⟨_, List.getElem?_eq_getElem (by rw [HN.out]; exact hlt)⟩
    obtain ⟨eb, eo, rfl, heb, hcell⟩ := (HS.out.below hb) (by rw [HN.out]; omega)
    have r0 := hcell k p hp
    have d2 : decide ((k : Int) < (N : Int)) = true := decide_eq_true (by omega)
    have d2' : decide (k < N) = true := decide_eq_true hlt
    have HKS := Lib.hid (comK_succ (t := t) hp)
    have HLEN := Lib.hid hlen
    have HO := Lib.hid ho
    have hl2 : Below wr.heap.size wr (wr.alloc (.cells #[.string p, .int .i64 1] 73)) := (Below.refl _ _).alloc (Nat.le_refl _) _
    have HO2 := Lib.hid (ho.alloc (.cells #[.string p, .int .i64 1] 73))
    have HB2 := Lib.hid (hb.trans (hl2.mono hb.size))
    have HSRC := Lib.hid (Src.lk (P := Tryz.prog) wr ⟨p, 1⟩ 73)
    have hbs : w0.heap.size ≤ (wr.alloc (.cells #[.string p, .int .i64 1] 73)).heap.size := HB2.out.size
    generalize hkl : (comK t (P.take k)).length = kl at *
    have hbyte : (kl + 1) * 24 ≤ 140737488355328 := by omega
    have hmax : kl + 1 ≤ maxLen := by unfold maxLen; omega
    have HKL := Lib.hid hkl
    clear hcell hp ho hb hl2 heb hlen hkl
    go_wp2_with (at_builtin; go_loud (refine wpList_append_S rfl (.tmp 17) (.tmp 20) 70 70 rfl i0 (.agg #[.string ⟨#[]⟩, .int .i64 0]) 24 (.slice 73) Tryz.underlying70 Tryz.underlying70 (fun _ h => by cases h) hi hz0 hz1 hz2 rfl rfl rfl HO2.out HSRC.out hmax hbyte hbs ?_; intro A9 c9 w9 ho9 hg9 hw9))
    have HO9 : Hid (OwnS w9 w0.heap.size 73 2 (.slice A9 (kl + 1) c9) (comK t (P.take (k + 1))).length (lkVs (comK t (P.take (k + 1))))) := Lib.hid (by
     rw [HKS.out, List.length_append, lkVs_snoc, HKL.out]
     exact ho9)
    have HB9 := Lib.hid (HB2.out.grown hg9 hbs (fun j hj => (HO2.out.lt j hj).1))
    clear ho9 hg9 hw9
    go_roundw
    case rel => exact ⟨k + 1, _, rfl, rfl, by omega, HO9.out, HB9.out⟩
    case measure => simp [intOf]; omega
  · obtain rfl : k = N := by omega
    have d2 : decide ((k : Int) < (k : Int)) = false := decide_eq_false (by omega)
    have d2' : decide (k < k) = false := decide_eq_false (by omega)
    rw [List.take_of_length_le (by rw [HN.out]; exact Nat.le_refl _)] at ho
    rw [List.take_of_length_le (by rw [HN.out]; exact Nat.le_refl _)]
    have hcp := ho.cap
    have hcm := ho.capm
    have HO := Lib.hid ho
    clear ho hb hlen
    go_wp2_with (go_at_call 187; refine (clipLk_any _ _ _ _ hcp hcm).mono ?_; rintro e w9 ⟨rfl, rfl⟩)
    go_ret
    exact ⟨HL.out.trans (HB.out.mono (Nat.le_of_lt HG.out)), Av, rfl, (HO.out.clipN).base_ (Nat.le_of_lt HG.out)⟩
end Go.Proofs.YtihanglnjghcfaaGreatDoor
namespace Go.Proofs.YtihanglnjghcfaaGreatDoor
open Go.RowKit
set_option linter.unusedVariables false
set_option linter.unusedSimpArgs false

def entK (x : Ent) : List Lk := if x.m.data.toList = [52, 48, 48, 48, 48] then [⟨x.i, 2⟩] else if x.m.data.toList = [49, 54, 48, 48, 48, 48] then [] else [⟨x.i, 3⟩]
def treeK (L : List Ent) : List Lk := L.flatMap entK
theorem treeK_succ {L : List Ent} {k : Nat} {x : Ent} (h : L[k]? = some x) : treeK (L.take (k + 1)) = treeK (L.take k) ++ entK x := by
 unfold treeK
 rw [List.take_add_one, h, List.flatMap_append]
 simp
theorem treeK_len (L : List Ent) : (treeK L).length ≤ L.length := by
 unfold treeK
 induction L with
 | nil => simp
 | cons x L ih =>
  rw [List.flatMap_cons, List.length_append, List.length_cons]
  have : (entK x).length ≤ 1 := by unfold entK; split; simp; split <;> simp
  omega
set_option maxRecDepth 100000 in
set_option maxHeartbeats 4000000 in
theorem linksTree_any (A : Option Addr) (N c : Nat) (L : List Ent) (w : World) (hE : EntsAt w A L) (hN : L.length = N) (hNb : N ≤ 1099511627776) :
 Calls Tryz.prog 193 #[.agg #[.slice A N c]] w (LinksPost (treeK L) w) := by
 obtain ⟨i0, hi, hz0, hz1, hz2⟩ := info_parts info_lk
 have HN := Lib.hid hN
 have hl0 : Below w.heap.size w (w.alloc (.cells #[.slice A N c] 164)) := (Below.refl _ _).alloc (Nat.le_refl _) _
 have HE := Lib.hid (hE.below hl0)
 have HL := Lib.hid hl0
 have k0 : (w.alloc (.cells #[.slice A N c] 164)).cell? ⟨w.heap.size, 0, none⟩ = some (.slice A N c) := by rw [World.cell?_alloc_at _ _ _ _ (by simp)]; rfl
 clear hE hN hl0
 go_enter Tryz.func193, Tryz.ntmps193
 go_upto_region 1 with (fail)
 generalize w.alloc (.cells #[.slice A N c] 164) = w0 at *
 generalize hB : w.heap.size = B at *
 have HB := Lib.hid hB
 clear hB
 go_upto_region 3 with (fail)
 go_loopw [9, 3] (fun vi vo wr => ∃ (k : Nat) (v1 : Value), vi = .int .i64 k ∧ v1 = vo ∧ k ≤ N ∧ OwnS wr w0.heap.size 73 2 v1 (treeK (L.take k)).length (lkVs (treeK (L.take k))) ∧ Below w0.heap.size w0 wr) (fun vi _ _ => N - (intOf vi).toNat)
 case atStart => exact ⟨0, _, rfl, rfl, Nat.zero_le _, by simpa [treeK, lkVs] using OwnS.nil _ _ _ _, Below.refl _ _⟩
 case round =>
  obtain ⟨k, v, rfl, rfl, hk, ho, hB2⟩ := hrel
  obtain ⟨Av, cv, rfl⟩ := ho.shape
  have HB0 := Lib.hid hB2
  have HER := Lib.hid (HE.out.below hB2)
  by_cases hlt : k < N
  · obtain ⟨x, hx⟩ : ∃ x, L[k]? = some x := ⟨_, List.getElem?_eq_getElem (by rw [HN.out]; exact hlt)⟩
    obtain ⟨eb, eo, rfl, heb, hcell⟩ := HER.out (by rw [HN.out]; omega)
    obtain ⟨r0, r1, r2⟩ := hcell k x hx
    have d2 : decide ((k : Int) < (N : Int)) = true := decide_eq_true (by omega)
    have d2' : decide (k < N) = true := decide_eq_true hlt
    have HKS := Lib.hid (treeK_succ hx)
    have hkl0 : (treeK (L.take k)).length ≤ k := Nat.le_trans (treeK_len _) (by rw [List.length_take]; omega)
    have HO := Lib.hid ho
    clear hcell hx ho hB2 heb HER
    go_upto_region 5 with (fail)
    have hl5 : Below wr.heap.size wr (wr.alloc (.cells #[.string x.m, .string x.n, .string x.i] 116)) := (Below.refl _ _).alloc (Nat.le_refl _) _
    have he5 := entF_new wr x
    have HO5 := Lib.hid (HO.out.alloc (.cells #[.string x.m, .string x.n, .string x.i] 116))
    have HB05 := Lib.hid (HB0.out.trans (hl5.mono HB0.out.size))
    clear r0 r1 r2 hl5 HO HB0
    generalize wr.alloc (.cells #[.string x.m, .string x.n, .string x.i] 116) = w5 at *
    generalize wr.heap.size = og at *
    have q0 : w5.cell? ⟨og, 0, none⟩ = some (.string x.m) := he5.cell 0 (by decide)
    have q2 : w5.cell? ⟨og, 2, none⟩ = some (.string x.i) := he5.cell 2 (by decide)
    have hml : x.m.toList = x.m.data.toList := Lib.toList_data _
    generalize hkl : (treeK (L.take k)).length = kl at *
    have HKL := Lib.hid hkl
    have hbs0 : w0.heap.size ≤ w5.heap.size := HB05.out.size
    have hl6 : ∀ z : Int, Below w5.heap.size w5 (w5.alloc (.cells #[.string x.i, .int .i64 z] 73)) := fun z => (Below.refl _ _).alloc (Nat.le_refl _) _
    have HO6 := Lib.hid (fun z : Int => HO5.out.alloc (.cells #[.string x.i, .int .i64 z] 73))
    have HB6 := Lib.hid (fun z : Int => HB05.out.trans ((hl6 z).mono HB05.out.size))
    have HSRC := Lib.hid (fun z : Int => Src.lk (P := Tryz.prog) w5 ⟨x.i, z⟩ 73)
    have HBS := Lib.hid (fun z : Int => (HB6.out z).size)
    have hbyte : (kl + 1) * 24 ≤ 140737488355328 := by omega
    have hmax : kl + 1 ≤ maxLen := by unfold maxLen; omega
    clear he5 hl6 hkl
    by_cases h1 : x.m.data.toList = [52, 48, 48, 48, 48]
    · have HEK : Hid (entK x = [⟨x.i, 2⟩]) := Lib.hid (by unfold entK; rw [if_pos h1])
      have e1 : (x.m.toList == [52, 48, 48, 48, 48]) = true := by rw [hml, h1]; rfl
      clear h1 hml
      go_upto_region 10 with (at_builtin; go_loud (refine wpList_append_S rfl (.tmp 23) (.tmp 27) 70 70 rfl i0 (.agg #[.string ⟨#[]⟩, .int .i64 0]) 24 (.slice 73) Tryz.underlying70 Tryz.underlying70 (fun _ h => by cases h) hi hz0 hz1 hz2 rfl rfl rfl (HO6.out 2) (HSRC.out 2) hmax hbyte (HBS.out 2) ?_; intro A9 c9 w9 ho9 hg9 hw9))
      have HO9 : Hid (OwnS w9 w0.heap.size 73 2 (.slice A9 (kl + 1) c9) (treeK (L.take (k + 1))).length (lkVs (treeK (L.take (k + 1))))) := Lib.hid (by
       rw [HKS.out, HEK.out, List.length_append, lkVs_snoc, HKL.out]
       exact ho9)
      have HB9 := Lib.hid ((HB6.out 2).grown hg9 (HBS.out 2) (fun j hj => ((HO6.out 2).lt j hj).1))
      clear ho9 hg9 hw9 HO6 HB6 HSRC HBS
      go_wp2
      go_roundw
      case rel => exact ⟨k + 1, _, rfl, rfl, by omega, HO9.out, HB9.out⟩
      case measure => simp [intOf]; omega
    · have e1 : (x.m.toList == [52, 48, 48, 48, 48]) = false := by rw [hml, beq_eq_false_iff_ne]; exact h1
      by_cases h2 : x.m.data.toList = [49, 54, 48, 48, 48, 48]
      · have HEK : Hid (entK x = []) := Lib.hid (by unfold entK; rw [if_neg h1, if_pos h2])
        have e2 : (x.m.toList == [49, 54, 48, 48, 48, 48]) = true := by rw [hml, h2]; rfl
        have HO9 : Hid (OwnS w5 w0.heap.size 73 2 (.slice Av kl cv) (treeK (L.take (k + 1))).length (lkVs (treeK (L.take (k + 1))))) := Lib.hid (by
         rw [HKS.out, HEK.out, List.append_nil, HKL.out]
         exact HO5.out)
        clear h1 h2 hml HO6 HB6 HSRC HBS
        go_wp2
        go_roundw
        case rel => exact ⟨k + 1, _, rfl, rfl, by omega, HO9.out, HB05.out⟩
        case measure => simp [intOf]; omega
      · have HEK : Hid (entK x = [⟨x.i, 3⟩]) := Lib.hid (by unfold entK; rw [if_neg h1, if_neg h2])
        have e2 : (x.m.toList == [49, 54, 48, 48, 48, 48]) = false := by rw [hml, beq_eq_false_iff_ne]; exact h2
        clear h1 h2 hml
        go_upto_region 10 with (at_builtin; go_loud (refine wpList_append_S rfl (.tmp 15) (.tmp 19) 70 70 rfl i0 (.agg #[.string ⟨#[]⟩, .int .i64 0]) 24 (.slice 73) Tryz.underlying70 Tryz.underlying70 (fun _ h => by cases h) hi hz0 hz1 hz2 rfl rfl rfl (HO6.out 3) (HSRC.out 3) hmax hbyte (HBS.out 3) ?_; intro A9 c9 w9 ho9 hg9 hw9))
        have HO9 : Hid (OwnS w9 w0.heap.size 73 2 (.slice A9 (kl + 1) c9) (treeK (L.take (k + 1))).length (lkVs (treeK (L.take (k + 1))))) := Lib.hid (by
         rw [HKS.out, HEK.out, List.length_append, lkVs_snoc, HKL.out]
         exact ho9)
        have HB9 := Lib.hid ((HB6.out 3).grown hg9 (HBS.out 3) (fun j hj => ((HO6.out 3).lt j hj).1))
        clear ho9 hg9 hw9 HO6 HB6 HSRC HBS
        go_wp2
        go_roundw
        case rel => exact ⟨k + 1, _, rfl, rfl, by omega, HO9.out, HB9.out⟩
        case measure => simp [intOf]; omega
  · obtain rfl : k = N := by omega
    have d2 : decide ((k : Int) < (k : Int)) = false := decide_eq_false (by omega)
    have d2' : decide (k < k) = false := decide_eq_false (by omega)
    rw [List.take_of_length_le (by rw [HN.out]; exact Nat.le_refl _)] at ho
    rw [List.take_of_length_le (by rw [HN.out]; exact Nat.le_refl _)]
    have hcp := ho.cap
    have hcm := ho.capm
    have HO := Lib.hid ho
    have HBS : Hid (B ≤ w0.heap.size) := Lib.hid (by rw [← HB.out]; exact HL.out.size)
    clear ho hB2
    go_wp2_with (go_at_call 187; refine (clipLk_any _ _ _ _ hcp hcm).mono ?_; rintro e w9 ⟨rfl, rfl⟩)
    go_ret
    exact ⟨by rw [HB.out]; exact HL.out.trans (HB0.out.mono HBS.out), Av, rfl, (HO.out.clipN).base_ (by rw [HB.out]; exact HBS.out)⟩
end Go.Proofs.YtihanglnjghcfaaGreatDoor
namespace Go.Proofs.YtihanglnjghcfaaGreatDoor
open Go.RowKit Go.Maps
set_option linter.unusedVariables false
set_option linter.unusedSimpArgs false

/-- An object as it is kept: its kind, its bytes, its ID. -/
structure Kn where
 kd : Int
 b : List UInt8
 id : Gid
def knV (x : Kn) : List Value := [.int .i64 x.kd, .string (bk x.b), .string (bk x.id)]
theorem knV_len (x : Kn) : (knV x).length = 3 := rfl
theorem info_kn : (Tryz.prog.info? 27).map (fun i => (i.zero, i.size, i.bytes)) = some (some (.agg #[.int .i64 0, .string ⟨#[]⟩, .string ⟨#[]⟩]), 3, 40) := by kernel_rfl
/-- The first with that ID. -/
def getK (R : List Kn) (id : Gid) : Option Kn := R.find? fun o => o.id == id
def repF (vO vR vH vT : Value) : Nat → Value := fun i => if i = 0 then vO else if i = 1 then vR else if i = 2 then vH else vT
/-- A repository in block r: its objects; its blocks are such as K says. -/
def RepAt (w : World) (K : Nat → Prop) (r : Nat) (R : List Kn) : Prop :=
 K r ∧ ∃ A c vR vH vT, Cel w r 47 4 (repF (.slice A R.length c) vR vH (.bool vT)) ∧ OwnS w 0 27 3 (.slice A R.length c) R.length (R.flatMap knV) ∧ ∀ k, Value.ownBlock (.slice A R.length c) = some k → K k
theorem RepAt.keep {w w' : World} {K K' : Nat → Prop} {r : Nat} {R : List Kn} {S : Nat → Prop} (h : RepAt w K r R) (hc : Chg S w w') (hS : ∀ k, K k → k < w.heap.size → ¬ S k) (hK : ∀ k, K k → k < w.heap.size → K' k) : RepAt w' K' r R := by
 obtain ⟨hr, A, c, vR, vH, vT, h1, h2, h3⟩ := h
 exact ⟨hK r hr h1.blk, A, c, vR, vH, vT, h1.chg hc (hS r hr h1.blk), h2.chg hc fun k hk => hS k (h3 k hk) (h2.lt k hk).2, fun k hk => hK k (h3 k hk) (h2.lt k hk).2⟩
theorem RepAt.below {w w' : World} {K : Nat → Prop} {r : Nat} {R : List Kn} (h : RepAt w K r R) (hb : Below w.heap.size w w') : RepAt w' K r R :=
 h.keep (S := fun k => w.heap.size ≤ k) (Chg.of_below hb) (fun k _ h1 h2 => by omega) fun k hk _ => hk
theorem RepAt.mono {w : World} {K K' : Nat → Prop} {r : Nat} {R : List Kn} (h : RepAt w K r R) (hK : ∀ k, K k → k < w.heap.size → K' k) : RepAt w K' r R :=
 h.keep (Chg.refl (fun _ => False) w) (fun _ _ _ h => h) hK

/-! ### a walk's list -/
def itV (x : Git) : List Value := [.string (bk x.id), .int .i64 x.kd]
theorem itV_len (x : Git) : (itV x).length = 2 := rfl
theorem info_it : (Tryz.prog.info? 101).map (fun i => (i.zero, i.size, i.bytes)) = some (some (.agg #[.string ⟨#[]⟩, .int .i64 0]), 2, 24) := by kernel_rfl
def walF (get vL vM vE : Value) : Nat → Value := fun i => if i = 0 then get else if i = 1 then vL else if i = 2 then vM else vE
/-- The program's walk in block g: its blocks are such as K says. -/
def WalkAt (w : World) (K : Nat → Prop) (g : Nat) (get : Value) (easy : Bool) (l : List Git) : Prop :=
 K g ∧ ∃ A c m n, Cel w g 84 4 (walF get (.slice A l.length c) (.map (some m)) (.bool easy)) ∧ OwnS w 0 101 2 (.slice A l.length c) l.length (l.flatMap itV) ∧ (∀ k, Value.ownBlock (.slice A l.length c) = some k → K k) ∧ MapI w m n (atG l) ∧ n ≤ l.length ∧ K m
theorem WalkAt.keep {w w' : World} {K K' : Nat → Prop} {S : Nat → Prop} {g : Nat} {get : Value} {easy : Bool} {l : List Git} (h : WalkAt w K g get easy l) (hc : Chg S w w') (hS : ∀ k, K k → k < w.heap.size → ¬ S k) (hK : ∀ k, K k → k < w.heap.size → K' k) : WalkAt w' K' g get easy l := by
 obtain ⟨hg, A, c, m, n, h1, h2, h3, h4, h5, h6⟩ := h
 exact ⟨hK g hg h1.blk, A, c, m, n, h1.chg hc (hS g hg h1.blk), h2.chg hc fun k hk => hS k (h3 k hk) (h2.lt k hk).2, fun k hk => hK k (h3 k hk) (h2.lt k hk).2, h4.chg hc (hS m h6 h4.lt), h5, hK m h6 h4.lt⟩
end Go.Proofs.YtihanglnjghcfaaGreatDoor
namespace Go.Proofs.YtihanglnjghcfaaGreatDoor
open Go.RowKit
set_option linter.unusedVariables false
set_option linter.unusedSimpArgs false

theorem fieldL_eq {nm l x r : List UInt8} (h : fieldL nm l = some (x, r)) : l = nm ++ [32] ++ x ++ [10] ++ r := by
 unfold fieldL at h
 split at h
 · next hp =>
   have ht : Lib.trimPrefix l (nm ++ [32]) = l.drop (nm.length + 1) := by unfold Lib.trimPrefix; rw [if_pos hp]; simp
   have hl : l = (nm ++ [32]) ++ l.drop (nm.length + 1) := by
    have h1 := (hasPrefix_iff _ _).1 hp
    conv => lhs; rw [← List.take_append_drop (nm ++ [32]).length l]
    rw [h1]
    simp
   rw [ht] at h
   rcases idx_cases 10 (l.drop (nm.length + 1)) with ⟨hi, _⟩ | ⟨i, hi, hil, hi3, _⟩
   · rw [hi] at h; simp at h
   · rw [hi, if_neg (by omega)] at h
     simp only [Int.toNat_natCast] at h
     injection h with h
     injection h with h1 h2
     have hr : l.drop (nm.length + 1) = x ++ [10] ++ r := by
      conv => lhs; rw [← List.take_append_drop i (l.drop (nm.length + 1))]
      rw [h1, List.drop_eq_getElem_cons hil, (List.getElem?_eq_some_iff.1 hi3).2, h2]
      simp
     rw [hl, hr]
     simp only [List.append_assoc]
 · exact absurd h (by simp)
def parU (p : List UInt8) : List UInt8 := parentN ++ [32] ++ p ++ [10]
def commitU (r : CommitR) : List UInt8 := treeN ++ [32] ++ r.t ++ [10] ++ r.P.flatMap parU ++ (authorN ++ [32] ++ r.a ++ [10] ++ (committerN ++ [32] ++ r.c ++ [10] ++ ([10] ++ r.m)))
theorem parsF_eq : ∀ (f : Nat) (l : List UInt8) (acc P : List (List UInt8)) (r : List UInt8), parsF f l acc = some (P, r) → ∃ Q, P = acc ++ Q ∧ l = Q.flatMap parU ++ r
 | 0, _, _, _, _, h => by simp [parsF] at h
 | f + 1, l, acc, P, r, h => by
  rw [parsF] at h
  cases hf : fieldL parentN l with
  | none => rw [hf] at h; injection h with h; injection h with h1 h2; exact ⟨[], by rw [h1]; simp, by rw [h2]; simp⟩
  | some q =>
   obtain ⟨p, r'⟩ := q
   rw [hf] at h
   simp only at h
   split at h
   · exact absurd h (by simp)
   · obtain ⟨Q, hQ, hl⟩ := parsF_eq f r' (acc ++ [p]) P r h
     refine ⟨p :: Q, by rw [hQ]; simp, ?_⟩
     rw [fieldL_eq hf, hl]
     simp [parU]
theorem msgF_eq {l m : List UInt8} (h : msgF l = some m) : l = [10] ++ m := by
 unfold msgF at h
 split at h
 · exact absurd h (by simp)
 · split at h
   · next hc => injection h with h; subst h; rw [hc.1]; rfl
   · exact absurd h (by simp)
theorem commit_backU {l : List UInt8} {r : CommitR} (h : commitF l = some r) : l = commitU r := by
 unfold commitF at h
 cases h0 : fieldL treeN l with
 | none => rw [h0] at h; simp at h
 | some q0 =>
  obtain ⟨t, l1⟩ := q0
  simp only [h0] at h
  split at h
  · exact absurd h (by simp)
  · cases h1 : parsF (l1.length + 1) l1 [] with
    | none => rw [h1] at h; simp at h
    | some q1 =>
     obtain ⟨P, l2⟩ := q1
     simp only [h1] at h
     cases h2 : fieldL authorN l2 with
     | none => rw [h2] at h; simp at h
     | some q2 =>
      obtain ⟨a, l3⟩ := q2
      simp only [h2] at h
      split at h
      · exact absurd h (by simp)
      · cases h3 : fieldL committerN l3 with
        | none => rw [h3] at h; simp at h
        | some q3 =>
         obtain ⟨c, l4⟩ := q3
         simp only [h3] at h
         split at h
         · exact absurd h (by simp)
         · cases h4 : msgF l4 with
           | none => rw [h4] at h; simp at h
           | some m =>
            simp only [h4] at h
            injection h with h
            subst h
            obtain ⟨Q, hQ, hl1⟩ := parsF_eq _ _ _ _ _ h1
            rw [List.nil_append] at hQ
            subst hQ
            unfold commitU
            simp only
            rw [fieldL_eq h0, hl1, fieldL_eq h2, fieldL_eq h3, msgF_eq h4]
            simp only [List.append_assoc]
def tagU (r : TagR) : List UInt8 := objectN ++ [32] ++ r.o ++ [10] ++ (typeN ++ [32] ++ (strOfNums (nameL (r.k : Int))).data.toList ++ [10] ++ (tagN ++ [32] ++ r.n ++ [10] ++ (taggerN ++ [32] ++ r.g ++ [10] ++ ([10] ++ r.m))))
theorem isName_eq {s : ByteArray} {k : Nat} (h : isName s k = true) : strOfNums (nameL (k : Int)) = s := by
 unfold isName at h
 rw [beq_iff_eq, Lib.toList_data, Lib.toList_data] at h
 rw [← bk_of (strOfNums _), h, bk_of]
theorem kindN_name {s : ByteArray} (h : ¬ kindN s = 0) : strOfNums (nameL ((kindN s : Nat) : Int)) = s := by
 unfold kindN at h ⊢
 split
 · next h1 => exact isName_eq h1
 · next h1 =>
   rw [if_neg h1] at h
   split
   · next h2 => exact isName_eq h2
   · next h2 =>
     rw [if_neg h2] at h
     split
     · next h3 => exact isName_eq h3
     · next h3 =>
       rw [if_neg h3] at h
       split
       · next h4 => exact isName_eq h4
       · next h4 => rw [if_neg h4] at h; exact absurd rfl h
theorem tag_backU {l : List UInt8} {r : TagR} (h : tagF l = some r) : l = tagU r := by
 unfold tagF at h
 cases h0 : fieldL objectN l with
 | none => rw [h0] at h; simp at h
 | some q0 =>
  obtain ⟨o, l1⟩ := q0
  simp only [h0] at h
  split at h
  · exact absurd h (by simp)
  · cases h1 : fieldL typeN l1 with
    | none => rw [h1] at h; simp at h
    | some q1 =>
     obtain ⟨k, l2⟩ := q1
     simp only [h1] at h
     split at h
     · exact absurd h (by simp)
     · next hk =>
       cases h2 : fieldL tagN l2 with
       | none => rw [h2] at h; simp at h
       | some q2 =>
        obtain ⟨n, l3⟩ := q2
        simp only [h2] at h
        split at h
        · exact absurd h (by simp)
        · cases h3 : fieldL taggerN l3 with
          | none => rw [h3] at h; simp at h
          | some q3 =>
           obtain ⟨g, l4⟩ := q3
           simp only [h3] at h
           split at h
           · exact absurd h (by simp)
           · cases h4 : msgF l4 with
             | none => rw [h4] at h; simp at h
             | some m =>
              simp only [h4] at h
              injection h with h
              subst h
              unfold tagU
              simp only
              rw [kindN_name hk, bk_list, fieldL_eq h0, fieldL_eq h1, fieldL_eq h2, fieldL_eq h3, msgF_eq h4]
end Go.Proofs.YtihanglnjghcfaaGreatDoor
namespace Go.Proofs.YtihanglnjghcfaaGreatDoor
open Go.RowKit Go.Maps
set_option linter.unusedVariables false
set_option linter.unusedSimpArgs false

/-- A call through an interface. -/
theorem run_invoke {P : Program} {o : Oper} {ρ : Operand → Value} {x : Operand} {name : String} {t : TypeId} {v r : Value} {f : FuncId} {w : World}
 (ho : o.op = .call { callee := .invoke x name, args := #[], argTypes := #[] }) (hx : ρ x = .iface t v) (hm : (method (P.types.size + Made.depth) t v name).run P w = .ok (f, r) w) (hc : (callFunc f #[r]).run P w = .ok (.enter f #[r]) w) :
 (execOp ρ o).run P w = .ok (.enter f #[r]) w := by
 have hp : (program).run P w = .ok P w := rfl
 unfold execOp
 simp only [ho, resolve, invoke, callMethod, hx, Sem.run_bind, Sem.run_pure, Result.andThen_ok, List.map_toArray, List.map_nil, hp]
 simp [Sem.run_bind, hp, hm, hc, callMethod]
/-- What a method of an interface's value answers. -/
def Meth (name : String) (IF : Value) (w : World) (Q : Ending → World → Prop) : Prop :=
 ∃ t v f r, IF = .iface t v ∧ (method (Tryz.prog.types.size + Made.depth) t v name).run Tryz.prog w = .ok (f, r) w ∧ (callFunc f #[r]).run Tryz.prog w = .ok (.enter f #[r]) w ∧ Calls Tryz.prog f #[r] w Q
theorem wpList_invoke {ops : Array Oper} {rest : List Oper} {o : Oper} {a : Act} {Q : Exit → Act → World → Prop} {w : World} (hgd : o.guard = none) (x : Operand) (name : String)
 (ho : o.op = .call { callee := .invoke x name, args := #[], argTypes := #[] }) (IF : Value) (hx : a.eval x = IF) (R : Ending → World → Prop) (hm : Meth name IF w R)
 (h : ∀ e w', R e w' → ∃ v, e = .returned v ∧ wpList Tryz.prog ops Q rest (a.put o.dst v) w') : wpList Tryz.prog ops Q (o :: rest) a w :=
 wpList_plain hgd fun _ hK => by
  obtain ⟨t, v, f, r, rfl, h1, h2, h3⟩ := hm
  unfold Oper.wp
  rw [run_invoke ho hx h1 h2, Oper.upon_enter]
  refine h3.mono fun e w' hr => ?_
  obtain ⟨v', rfl, h'⟩ := h e w' hr
  exact hK _ _ h'
set_option maxRecDepth 100000 in
/-- object.Links, of any object. -/
theorem links_any (IF : Value) (w : World) (R : Ending → World → Prop) (hm : Meth "Links" IF w R) (hr : ∀ e w', R e w' → ∃ v, e = .returned v) :
 Calls Tryz.prog 59 #[IF] w R := by
 have hif : ∃ t v, IF = .iface t v := by obtain ⟨t, v, _, _, h, _⟩ := hm; exact ⟨t, v, h⟩
 obtain ⟨t, v, rfl⟩ := hif
 have HM := Lib.hid hm
 have HR := Lib.hid hr
 clear hm hr
 go_enter Tryz.func59, Tryz.ntmps59
 go_upto_region 3 with (fail)
 go_wp2_with (refine wpList_invoke rfl (.tmp 5) "Links" rfl _ rfl R HM.out ?_; intro e w1 h1; obtain ⟨v1, rfl⟩ := HR.out e w1 h1; refine ⟨_, rfl, ?_⟩; have H1 := Lib.hid h1; clear h1)
 exact H1.out
theorem OwnS.chgB {B : Nat} {w3 w1 : World} {e : TypeId} {size n : Nat} {v : Value} {xs : List Value} (h : OwnS w3 B e size v n xs) (hc : Chg (fun k => k < B) w3 w1) : OwnS w1 B e size v n xs :=
 h.chg hc fun k hk => Nat.not_lt.2 (h.lt k hk).1
theorem hexS_size (id : List UInt8) : (hexS id).size = 2 * id.length := by
 unfold hexS
 rw [strOfNums_size, hexL_len, bytesOf_len, bk_size]
theorem entU_id {l r : List UInt8} {x : Ent} (h : entU l = some (x, r)) : x.i.size ≤ 40 := by
 unfold entU at h
 split at h
 · exact absurd h (by simp)
 · split at h
   · exact absurd h (by simp)
   · simp only at h
     split at h
     · exact absurd h (by simp)
     · split at h
       · exact absurd h (by simp)
       · split at h
         · exact absurd h (by simp)
         · injection h with h
           injection h with h1 h2
           rw [← h1, hexS_size, List.length_take]
           omega
theorem treeU_id : ∀ (f : Nat) (l : List UInt8) (acc L : List Ent), treeU f l acc = some L → (∀ x ∈ acc, x.i.size ≤ 40) → ∀ x ∈ L, x.i.size ≤ 40
 | 0, _, _, _, h, _ => by simp [treeU] at h
 | f + 1, l, acc, L, h, ha => by
  rw [treeU] at h
  split at h
  · injection h with h
    subst h
    exact ha
  · cases hx : entU l with
    | none => rw [hx] at h; simp at h
    | some q =>
     obtain ⟨x, r⟩ := q
     rw [hx] at h
     simp only at h
     split at h
     · exact absurd h (by simp)
     · refine treeU_id f r (acc ++ [x]) L h fun y hy => ?_
       rcases List.mem_append.1 hy with hy | hy
       · exact ha y hy
       · rw [List.mem_singleton.1 hy]; exact entU_id hx
theorem treeU_num : ∀ (f : Nat) (l : List UInt8) (acc L : List Ent), treeU f l acc = some L → L.length ≤ acc.length + l.length
 | 0, _, _, _, h => by simp [treeU] at h
 | f + 1, l, acc, L, h => by
  rw [treeU] at h
  split at h
  · injection h with h
    subst h
    omega
  · cases hx : entU l with
    | none => rw [hx] at h; simp at h
    | some q =>
     obtain ⟨x, r⟩ := q
     rw [hx] at h
     simp only at h
     split at h
     · exact absurd h (by simp)
     · have ih := treeU_num f r (acc ++ [x]) L h
       have hl := entU_len hx
       rw [List.length_append] at ih
       simp only [List.length_cons, List.length_nil] at ih
       omega
theorem pars_num (P : List (List UInt8)) : P.length ≤ (P.flatMap parU).length := by
 induction P with
 | nil => simp
 | cons p P ih =>
  rw [List.flatMap_cons, List.length_append, List.length_cons]
  have : 1 ≤ (parU p).length := by unfold parU; simp; omega
  omega
theorem commit_num {l : List UInt8} {r : CommitR} (h : commitF l = some r) : r.P.length ≤ l.length := by
 rw [commit_backU h]
 have := pars_num r.P
 unfold commitU
 simp only [List.length_append]
 omega
theorem kindTree (v : Value) (w : World) : Calls Tryz.prog 192 #[.agg #[v]] w fun e w' => e = .returned (.int .i64 2) ∧ Below w.heap.size w w' := by
 go_enter Tryz.func192, Tryz.ntmps192
 go_wp2
 go_ret
 exact ⟨rfl, (Below.refl _ _).alloc (Nat.le_refl _) _⟩
theorem kindBlob (v : Value) (w : World) : Calls Tryz.prog 189 #[.agg #[v]] w fun e w' => e = .returned (.int .i64 3) ∧ Below w.heap.size w w' := by
 go_enter Tryz.func189, Tryz.ntmps189
 go_wp2
 go_ret
 exact ⟨rfl, (Below.refl _ _).alloc (Nat.le_refl _) _⟩
theorem kindCommit (v0 v1 v2 v3 v4 : Value) (w : World) : Calls Tryz.prog 185 #[.agg #[v0, v1, v2, v3, v4]] w fun e w' => e = .returned (.int .i64 1) ∧ Below w.heap.size w w' := by
 go_enter Tryz.func185, Tryz.ntmps185
 go_wp2
 go_ret
 exact ⟨rfl, (Below.refl _ _).alloc (Nat.le_refl _) _⟩
theorem kindTag (v0 v1 v2 v3 v4 : Value) (w : World) : Calls Tryz.prog 182 #[.agg #[v0, v1, v2, v3, v4]] w fun e w' => e = .returned (.int .i64 4) ∧ Below w.heap.size w w' := by
 go_enter Tryz.func182, Tryz.ntmps182
 go_wp2
 go_ret
 exact ⟨rfl, (Below.refl _ _).alloc (Nat.le_refl _) _⟩
/-- What an object hangs on, by its kind and its bytes; none: it is none. -/
def lkOf (kd : Int) (b : List UInt8) : Option (List Lk) :=
 if kd = 1 then (commitF b).map fun r => comK (bk r.t) (r.P.map bk)
 else if kd = 2 then (treeF b).map treeK
 else if kd = 3 then some []
 else if kd = 4 then (tagF b).map fun r => [⟨bk r.o, (r.k : Int)⟩]
 else none
def paOf (kd : Int) (b : List UInt8) : Option (List Gid) := if kd = 1 then (commitF b).map (·.P) else none
def tgOf (kd : Int) (b : List UInt8) : Option Gid := if kd = 4 then (tagF b).map (·.o) else none
def lkG (x : Lk) : Glk := ⟨x.id.data.toList, x.k⟩
def gobK (x : Kn) : Gob := ⟨x.kd, x.id, (lkOf x.kd x.b).map fun ks => ks.map lkG, paOf x.kd x.b, tgOf x.kd x.b⟩
/-- An object in memory above B, read from the bytes b. -/
def ObjIs (w : World) (B : Nat) (kd : Int) (b : List UInt8) (IF : Value) : Prop :=
 (kd = 1 ∧ ∃ r A, commitF b = some r ∧ IF = .iface 103 (.agg #[.string (bk r.t), .slice A r.P.length r.P.length, .string (bk r.a), .string (bk r.c), .string (bk r.m)]) ∧ OwnS w B 9 1 (.slice A r.P.length r.P.length) r.P.length (strVs r.P)) ∨
 (kd = 2 ∧ ∃ L A, treeF b = some L ∧ IF = .iface 164 (.agg #[.slice A L.length L.length]) ∧ OwnS w B 116 3 (.slice A L.length L.length) L.length (entVs L)) ∨
 (kd = 3 ∧ ∃ v, IF = .iface 148 (.agg #[v])) ∨
 (kd = 4 ∧ ∃ r, tagF b = some r ∧ IF = .iface 96 (.agg #[.string (bk r.o), .int .i64 (r.k : Int), .string (bk r.n), .string (bk r.g), .string (bk r.m)]))
def ParsePost (kd : Int) (b : List UInt8) (w : World) (e : Ending) (w' : World) : Prop :=
 Below w.heap.size w w' ∧ ((lkOf kd b = none ∧ ∃ n : Int, (n == 0) = false ∧ e = .returned (.tuple #[.nilIface, .int .i64 n])) ∨ ∃ IF, e = .returned (.tuple #[IF, .int .i64 0]) ∧ lkOf kd b ≠ none ∧ ObjIs w' w.heap.size kd b IF)
theorem oparse_any (kd : Int) (A : Option Addr) (n c : Nat) (l : List UInt8) (w : World) (hE : EnvO w) (hI : Ints .u8 w A (bytesOf (bk l))) (hn : l.length = n) (hnc : n ≤ c) (hcm : c ≤ 9223372036854775807) (hs : n ≤ 1099511627775) (hA : A = none → n = 0) :
 Calls Tryz.prog 61 #[.int .i64 kd, .slice A n c] w (ParsePost kd l w) := by
 have hs2 : n ≤ 8796093022000 := by omega
 by_cases h1 : kd = 1
 · subst h1
   refine (parseCommit_any A n c l w hE hI hn hnc hcm hs2).mono ?_
   rintro e w1 ⟨hb, ⟨h0, rfl⟩ | ⟨r, A2, hr, rfl, ho⟩⟩
   · exact ⟨hb, .inl ⟨by unfold lkOf; rw [if_pos rfl, h0]; rfl, 3, by decide, rfl⟩⟩
   · exact ⟨hb, .inr ⟨_, rfl, by unfold lkOf; rw [if_pos rfl, hr]; simp, .inl ⟨rfl, r, A2, hr, rfl, ho⟩⟩⟩
 · by_cases h2 : kd = 2
   · subst h2
     refine (parseTree_any A n c l w hE hI hn hnc hcm hs2).mono ?_
     rintro e w1 ⟨hb, ⟨h0, rfl⟩ | ⟨r, A2, hr, rfl, ho⟩⟩
     · exact ⟨hb, .inl ⟨by unfold lkOf; rw [if_neg (by decide), if_pos rfl, h0]; rfl, 3, by decide, rfl⟩⟩
     · exact ⟨hb, .inr ⟨_, rfl, by unfold lkOf; rw [if_neg (by decide), if_pos rfl, hr]; simp, .inr (.inl ⟨rfl, r, A2, hr, rfl, ho⟩)⟩⟩
   · by_cases h3 : kd = 3
     · subst h3
       refine (parseBlob_any A n c l w hE hI hn hnc hcm hs2 hA).mono ?_
       rintro e w1 ⟨hb, A2, rfl, ho⟩
       exact ⟨hb, .inr ⟨_, rfl, by unfold lkOf; simp, .inr (.inr (.inl ⟨rfl, _, rfl⟩))⟩⟩
     · by_cases h4 : kd = 4
       · subst h4
         refine (parseTag_any A n c l w hE hI hn hnc hcm hs2).mono ?_
         rintro e w1 ⟨hb, ⟨h0, rfl⟩ | ⟨r, hr, rfl⟩⟩
         · exact ⟨hb, .inl ⟨by unfold lkOf; rw [if_neg (by decide), if_neg (by decide), if_neg (by decide), if_pos rfl, h0]; rfl, 3, by decide, rfl⟩⟩
         · exact ⟨hb, .inr ⟨_, rfl, by unfold lkOf; rw [if_neg (by decide), if_neg (by decide), if_neg (by decide), if_pos rfl, hr]; simp, .inr (.inr (.inr ⟨rfl, r, hr, rfl⟩))⟩⟩
       · refine (parseNone_any kd _ w (by omega)).mono ?_
         rintro e w1 ⟨rfl, rfl⟩
         exact ⟨Below.refl _ _, .inl ⟨by unfold lkOf; rw [if_neg h1, if_neg h2, if_neg h3, if_neg h4], 1, by decide, rfl⟩⟩
/-- How an object hangs on others: never more than its bytes. -/
theorem lkOf_num {kd : Int} {b : List UInt8} {ks : List Lk} (h : lkOf kd b = some ks) : ks.length ≤ b.length + 1 := by
 unfold lkOf at h
 split at h
 · obtain ⟨r, hr, rfl⟩ := Option.map_eq_some_iff.1 h
   have := commit_num hr
   unfold comK
   simp
   omega
 · split at h
   · obtain ⟨L, hL, rfl⟩ := Option.map_eq_some_iff.1 h
     have := treeU_num _ _ _ _ hL
     have h2 := treeK_len L
     simp only [List.length_nil, Nat.zero_add] at this
     omega
   · split at h
     · injection h with h; subst h; simp
     · split at h
       · obtain ⟨r, hr, rfl⟩ := Option.map_eq_some_iff.1 h
         simp
       · cases h
def KdPost (kd : Int) (w : World) (e : Ending) (w' : World) : Prop := e = .returned (.int .i64 kd) ∧ Below w.heap.size w w'
end Go.Proofs.YtihanglnjghcfaaGreatDoor
namespace Go.Proofs.YtihanglnjghcfaaGreatDoor
open Go.RowKit Go.Maps
set_option linter.unusedVariables false
set_option linter.unusedSimpArgs false

def knA (x : Kn) : Array Value := #[.int .i64 x.kd, .string (bk x.b), .string (bk x.id)]
def zeroK : Array Value := #[.int .i64 0, .string ⟨#[]⟩, .string ⟨#[]⟩]
def getV : Option Kn → Value
 | none => .tuple #[.agg zeroK, .bool false]
 | some x => .tuple #[.agg (knA x), .bool true]
theorem info_k3 : (Tryz.prog.info? 27).map (·.size) = some 3 := by kernel_rfl
theorem getK_step {R : List Kn} {d : Gid} {i : Nat} (h : ∀ j x, j < i → R[j]? = some x → x.id ≠ d) {x : Kn} (hx : R[i]? = some x) (he : x.id = d) : getK R d = some x := by
 unfold getK
 induction R generalizing i with
 | nil => simp at hx
 | cons y r ih =>
  cases i with
  | zero =>
   simp at hx; subst hx
   rw [List.find?_cons, show (y.id == d) = true by rw [beq_iff_eq]; exact he]
  | succ i =>
   rw [List.find?_cons, show (y.id == d) = false by rw [beq_eq_false_iff_ne]; exact h 0 y (by omega) rfl]
   exact ih (i := i) (fun j x hj hx => h (j + 1) x (by omega) (by simpa using hx)) (by simpa using hx)
theorem getK_no {R : List Kn} {d : Gid} (h : ∀ j x, j < R.length → R[j]? = some x → x.id ≠ d) : getK R d = none := by
 unfold getK
 rw [List.find?_eq_none]
 intro x hx he
 obtain ⟨j, hj⟩ := List.mem_iff_getElem?.1 hx
 exact h j x (List.getElem?_eq_some_iff.1 hj).1 hj (by simpa using he)
set_option maxRecDepth 100000 in
set_option maxHeartbeats 2000000 in
theorem rget_any (w : World) (K : Nat → Prop) (r : Nat) (R : List Kn) (d : Gid) (h : RepAt w K r R) (hl : R.length ≤ 1073741824) :
 Calls Tryz.prog 29 #[.pointer (some ⟨r, 0, none⟩), .string (bk d)] w fun e w' => e = .returned (getV (getK R d)) ∧ Below w.heap.size w w' := by
 have hb0 : Below w.heap.size w (w.alloc (.cells zeroK 27)) := (Below.refl _ _).alloc (Nat.le_refl _) _
 have hres : Cel (w.alloc (.cells zeroK 27)) w.heap.size 27 3 (fun j => zeroK.getD j undef) := Cel.new w _ zeroK _ (fun i hi => by simp [Array.getD_eq_getD_getElem?, hi])
 have h1 := h.below hb0
 obtain ⟨_, A, c, vR, vH, vT, hce, how, _⟩ := h1
 have hG : Hid (∀ (i : Nat) (x : Kn), R[i]? = some x → ∃ b o, A = some ⟨b, o, none⟩ ∧ ∀ j, j < 3 → (w.alloc (.cells zeroK 27)).cell? ⟨b, o + i * 3 + j, none⟩ = (knV x)[j]?) := Lib.hid (fun i x hx => by
  obtain ⟨b, o, h1, _, _, h2⟩ := OwnS.flat knV_len (by decide) how hx
  exact ⟨b, o, h1, h2⟩)
 have k0 : (w.alloc (.cells zeroK 27)).cell? ⟨r, 0, none⟩ = some (.slice A R.length c) := hce.cell 0 (by decide)
 have HRES := Lib.hid hres
 have HB0 := Lib.hid hb0
 have HL := Lib.hid hl
 unfold zeroK at k0 hb0 hres
 clear hb0 hres hce how h
 go_enter Tryz.func29, Tryz.ntmps29
 go_upto_region 1 with (fail)
 generalize hw1 : w.alloc (.cells #[.int .i64 0, .string ⟨#[]⟩, .string ⟨#[]⟩] 27) = w1 at *
 have HW1 : Hid (w.alloc (.cells zeroK 27) = w1) := Lib.hid hw1
 rw [HW1.out] at HRES HB0 hG
 generalize hg1 : w.heap.size = g1 at *
 clear hw1 HW1
 go_wp2
 go_loopw [6] (fun vn wr => ∃ n : Nat, vn = .int .i64 n ∧ n ≤ R.length ∧ wr = w1 ∧ ∀ j x, j < n → R[j]? = some x → x.id ≠ d) (fun vn _ => R.length - (intOf vn).toNat)
 case atStart => exact ⟨0, rfl, by omega, rfl, fun j x h => absurd h (by omega)⟩
 case round =>
  obtain ⟨n, rfl, hn, rfl, hno⟩ := hrel
  have HNO := Lib.hid hno
  clear hno
  by_cases hlt : n < R.length
  · have d1 : decide ((n : Int) < (R.length : Int)) = true := decide_eq_true (by omega)
    have d1' : decide (n < R.length) = true := decide_eq_true hlt
    obtain ⟨b, o, hA, hc⟩ := hG.out n R[n] (List.getElem?_eq_getElem hlt)
    subst hA
    generalize hx : R[n] = x at *
    have HX : Hid (R[n]? = some x) := Lib.hid (by rw [List.getElem?_eq_getElem hlt, hx])
    have f0 : wr.cell? ⟨b, o + n * 3, none⟩ = some (.int .i64 x.kd) := hc 0 (by decide)
    have f1 : wr.cell? ⟨b, o + n * 3 + 1, none⟩ = some (.string (bk x.b)) := hc 1 (by decide)
    have f2 : wr.cell? ⟨b, o + n * 3 + 2, none⟩ = some (.string (bk x.id)) := hc 2 (by decide)
    have hle : ¬ (R.length : Int) ≤ n := by omega
    have hn0 : (0 : Int) ≤ n := by omega
    have hnl : (n : Int) < R.length := by omega
    clear hc hx
    by_cases he : x.id = d
    · have q1 : ((bk x.id).toList == (bk d).toList) = true := by rw [he]; simp
      have HRR : Hid (getK R d = some x) := Lib.hid (getK_step HNO.out HX.out he)
      clear he
      have z0 := HRES.out.cell 0 (by decide)
      have z1 := HRES.out.cell 1 (by decide)
      have z2 := HRES.out.cell 2 (by decide)
      have y0 := HRES.out.frozen 0
      have y1 := HRES.out.frozen 1
      have y2 := HRES.out.frozen 2
      go_wp2
      have hC := (((HRES.out.set 0 (.int .i64 x.kd)).set 1 (.string (bk x.b))).set 2 (.string (bk x.id))).congr (f' := fun j => (knA x).getD j undef) (fun i hi => by
       have : i = 0 ∨ i = 1 ∨ i = 2 := by omega
       rcases this with rfl | rfl | rfl <;> rfl)
      rw [HRR.out]
      exact bodyPost_ret (v := getV (some x)) (results_cel2 (vs := knA x) rfl _ _ rfl rfl hC Tryz.underlying27 rfl info_k3 (Nat.le_refl 3) (fun j hj => by
       have : j = 0 ∨ j = 1 ∨ j = 2 := by have : j < 3 := hj; omega
       rcases this with rfl | rfl | rfl <;> rfl)) rfl ⟨rfl, ((HB0.out.setCell (p := ⟨g1, 0, none⟩) (Nat.le_refl _) _).setCell (p := ⟨g1, 1, none⟩) (Nat.le_refl _) _).setCell (p := ⟨g1, 2, none⟩) (Nat.le_refl _) _⟩
    · have q1 : ((bk x.id).toList == (bk d).toList) = false := by rw [Lib.toList_data, Lib.toList_data, bk_list, bk_list, beq_eq_false_iff_ne]; exact he
      have HNX : Hid (∀ j y, j < n + 1 → R[j]? = some y → y.id ≠ d) := Lib.hid (fun j y hj hy => by
       rcases Nat.lt_or_ge j n with h | h
       · exact HNO.out j y h hy
       · obtain rfl : j = n := by omega
         rw [HX.out] at hy
         injection hy with hy
         rw [← hy]; exact he)
      have hw : IntKind.i64.wrap ((n : Int) + 1) = (n : Int) + 1 := IntWalk.i64_in _ (by have := HL.out; omega)
      clear he
      go_wp2
      go_roundw
      case rel => exact ⟨n + 1, rfl, hlt, by first | rfl | trivial, HNX.out⟩
      case measure => simp [intOf]; omega
  · have d1 : decide ((n : Int) < (R.length : Int)) = false := decide_eq_false (by omega)
    have d1' : decide (n < R.length) = false := decide_eq_false hlt
    have HRR : Hid (getK R d = none) := Lib.hid (getK_no fun j x hj => HNO.out j x (by omega))
    have z0 := HRES.out.cell 0 (by decide)
    have z1 := HRES.out.cell 1 (by decide)
    have z2 := HRES.out.cell 2 (by decide)
    have y0 := HRES.out.frozen 0
    have y1 := HRES.out.frozen 1
    have y2 := HRES.out.frozen 2
    clear hn hlt
    go_wp2
    have hC := (((HRES.out.set 0 (.int .i64 0)).set 1 (.string ⟨#[]⟩)).set 2 (.string ⟨#[]⟩)).congr (f' := fun j => zeroK.getD j undef) (fun i hi => by
     have : i = 0 ∨ i = 1 ∨ i = 2 := by omega
     rcases this with rfl | rfl | rfl <;> rfl)
    rw [HRR.out]
    exact bodyPost_ret (v := getV none) (results_cel2 (vs := zeroK) rfl _ _ rfl rfl hC Tryz.underlying27 rfl info_k3 (Nat.le_refl 3) (fun j hj => by
     have : j = 0 ∨ j = 1 ∨ j = 2 := by have : j < 3 := hj; omega
     rcases this with rfl | rfl | rfl <;> rfl)) rfl ⟨rfl, by rw [hg1]; exact ((HB0.out.setCell (p := ⟨g1, 0, none⟩) (Nat.le_refl _) _).setCell (p := ⟨g1, 1, none⟩) (Nat.le_refl _) _).setCell (p := ⟨g1, 2, none⟩) (Nat.le_refl _) _⟩
end Go.Proofs.YtihanglnjghcfaaGreatDoor
