/- GraphLines, walked. -/
import Derived.Test.YtihanglnjghcfaaGreatDoorGLn17
import Derived.Test.YtihanglnjghcfaaGreatDoorGLn13
namespace Go.Proofs.YtihanglnjghcfaaGreatDoor
open Go.RowKit Go.Maps
set_option linter.unusedVariables false
set_option linter.unusedSimpArgs false

theorem modN (x : Int) (N : Nat) (h : 0 < N) : ∃ (y : Int) (A : Nat), x.tmod (N : Int) = y ∧ -(N : Int) < y ∧ y < N ∧ (y + N).tmod (N : Int) = (A : Int) ∧ A < N := by
 have hp : (0 : Int) < (N : Int) := by omega
 have h1 := Int.tmod_lt_of_pos x hp
 have h2 := Int.lt_tmod_of_pos x hp
 refine ⟨x.tmod N, ((x.tmod N + N).tmod N).toNat, rfl, by omega, by omega, ?_, ?_⟩
 · have h3 : 0 ≤ (x.tmod N + N).tmod (N : Int) := Int.tmod_nonneg _ (by omega)
   omega
 · have h4 := Int.tmod_lt_of_pos (x.tmod N + N) hp
   omega
/-- A repository's blocks beside a list's. -/
def KI (n0 : Nat) (A : Option Addr) (k : Nat) : Prop := n0 ≤ k ∧ A.map (·.block) ≠ some k
/-- The blocks of the law's Get over it. -/
def LnF (n0 s b k : Nat) : Prop := (n0 ≤ k ∧ k ≠ b ∧ k < s) ∨ k = s ∨ k = s + 1
theorem own_map {A : Option Addr} {n c k : Nat} (h : Value.ownBlock (.slice A n c) = some k) : A.map (·.block) = some k := by
 cases A with
 | none => simp [Value.ownBlock] at h
 | some a => simpa [Value.ownBlock] using h
theorem map_own {A : Option Addr} {n c k : Nat} (h : A.map (·.block) = some k) : Value.ownBlock (.slice A n c) = some k := by
 cases A with
 | none => simp at h
 | some a => simpa [Value.ownBlock] using h
theorem DocS.mono {w : World} {K K' : Nat → Prop} {A : Option Addr} {c : Nat} {l : List Gid} (h : DocS w K A c l) (hK : ∀ k, K k → K' k) : DocS w K' A c l := ⟨h.1, fun k hk => hK k (h.2 k hk)⟩
theorem DocS.own {w : World} {K : Nat → Prop} {A : Option Addr} {c : Nat} {l : List Gid} (h : DocS w K A c l) : DocS w (fun k => K k ∧ A.map (·.block) = some k) A c l := ⟨h.1, fun k hk => ⟨h.2 k hk, own_map hk⟩⟩
theorem line_next {w4 wa w8 : World} {n0 r : Nat} {R : List Kn} {A3 A8 : Option Addr} {c3 c8 : Nat} {l : List Gid} {x : Gid} (hd : DocS w4 (fun k => n0 ≤ k) A3 c3 l) (hr : RepAt w4 (KI n0 A3) r R) (hb : Below w4.heap.size w4 wa) (hs : w4.heap.size ≤ wa.heap.size)
 (ho : OwnS w8 0 9 1 (.slice A8 (l.length + 1) c8) (l.length + 1) (strVs l ++ [.string (bk x)])) (hg : wa.grownBy w8 (Value.ownBlock (.slice A3 l.length c3)))
 (hh : (Value.slice A8 (l.length + 1) c8).ownBlock = (Value.slice A3 l.length c3).ownBlock ∨ (Value.slice A8 (l.length + 1) c8).ownBlock = some wa.heap.size) (hn : n0 ≤ w4.heap.size) :
 DocS w8 (fun k => n0 ≤ k) A8 c8 (l ++ [x]) ∧ RepAt w8 (KI n0 A8) r R ∧ Chg (fun k => Value.ownBlock (.slice A3 l.length c3) = some k) w4 w8 := by
 have hc : Chg (fun k => Value.ownBlock (.slice A3 l.length c3) = some k) w4 w8 := (Chg.of_below hb).trans (Chg.of_grown (S := fun k => Value.ownBlock (.slice A3 l.length c3) = some k) hg (fun k hk => hk)) (fun _ _ h => h)
 refine ⟨(hd.below hb).snoc ho hh (by omega), hr.keep hc (fun k hk _ h => hk.2 (own_map h)) (fun k hk hl => ⟨hk.1, fun e => ?_⟩), hc⟩
 have e2 := map_own (n := l.length + 1) (c := c8) e
 rcases hh with h | h
 · exact hk.2 (own_map (h.symm.trans e2))
 · rw [h] at e2
   injection e2 with e2
   omega
set_option maxRecDepth 100000 in
set_option maxHeartbeats 4000000 in
theorem graphLines_walk (hSo : SortsS) (x a b : Int) (w : World) (hE : EnvO w) (hx : x ≤ 9223372036854775807) (ha : a ≤ 9223372036854775807) (hb : b ≤ 9223372036854775807) :
 Calls Tryz.prog 9 #[.int .i64 x, .int .i64 a, .int .i64 b] w fun e w' => e = .returned (.bool true) ∧ Below w.heap.size w w' := by
 obtain ⟨k, hk, hk16⟩ := and15 x
 obtain ⟨N, hN⟩ : ∃ N, N = k + 2 := ⟨_, rfl⟩
 have hwN : IntKind.i64.wrap ((k : Int) + 2) = (N : Int) := by rw [IntWalk.i64_in _ (by omega)]; omega
 have HN : Hid (N = k + 2 ∧ k < 16) := Lib.hid ⟨hN, hk16⟩
 have hn0 : ¬ (N : Int) = 0 := by omega
 have hn0' : ((N : Int) == 0) = false := by rw [beq_eq_false_iff_ne]; exact hn0
 obtain ⟨ya, IA, hya, ha1, ha2, hyza, hIA⟩ := modN a N (by omega)
 obtain ⟨i0, hi, hz0, hz1, hz2⟩ := info_parts info_str1
 obtain ⟨yb, IB, hyb, hb1, hb2, hyzb, hIB⟩ := modN b N (by omega)
 have hN18 : N < 18 := by omega
 have hyaw : IntKind.i64.wrap (ya + N) = ya + N := IntWalk.i64_in _ (by omega)
 have hybw : IntKind.i64.wrap (yb + N) = yb + N := IntWalk.i64_in _ (by omega)
 have HAB : Hid (IA < N ∧ IB < N) := Lib.hid ⟨hIA, hIB⟩
 have HSO := Lib.hid hSo
 have HE := Lib.hid hE
 have HLT := Lib.hid hE.lt
 have hR0 := RepAt.new w.drew ⟨#[]⟩
 clear hSo hE hx ha hb hk16 hN ha1 ha2 hb1 hb2 hIA hIB hN18
 go_enter Tryz.func9, Tryz.ntmps9
 go_upto_region 2 with (fail)
 go_cut [1, 2] (fun v1 v2 wx => v1 = .int .i64 (IA : Int) ∧ v2 = .int .i64 (IB : Int) ∧ Below w.heap.size w wx)
 case first => as_aux_lemma =>
  go_quiet (fail)
  go_wp2_with fail
  go_meet
  exact ⟨rfl, rfl, Below.drewN (Below.refl _ _) _⟩
 case rest =>
  obtain ⟨rfl, rfl, hb0⟩ := hcut
  generalize wc = w0 at *
  clear hR0 hya hyb hyza hyzb hyaw hybw hn0 hn0' hwN hk
  have hR0 := RepAt.new w0 ⟨#[]⟩
  have hB0 : Below w0.heap.size w0 (w0.alloc (.cells #[.slice none 0 0, .slice none 0 0, .string ⟨#[]⟩, .bool false] 47)) := (Below.refl _ _).alloc (Nat.le_refl _) _
  have HBW0 := Lib.hid hb0
  clear hb0
  go_upto_region 4 with (fail)
  generalize w0.alloc (.cells #[.slice none 0 0, .slice none 0 0, .string ⟨#[]⟩, .bool false] 47) = w1 at *
  have HR0 := Lib.hid hR0
  have HB0 := Lib.hid hB0
  clear hR0 hB0
  have HA1 := Lib.hid (radd_any (fun k => w0.heap.size ≤ k) w0.heap.size [] 2 [] w1 HR0.out (fun k hk => by have := HB0.out.size; omega) (by simp) (by simp))
  unfold AddK at HA1
  rw [aw_one, show idK 2 [] = et_d from et_id, show bk [] = ⟨#[]⟩ from rfl] at HA1
  go_wp2_with fail
  refine HA1.out.mono ?_
  rintro e w2 ⟨rfl, hr2, hc2⟩
  have HR2 : Hid (RepAt w2 (KI w0.heap.size none) w0.heap.size (lnR 0)) := Lib.hid (hr2.mono fun k hk _ => ⟨hk, by simp⟩)
  have HB2 : Hid (Below w0.heap.size w0 w2) := Lib.hid (HB0.out.trans (hc2.below HB0.out.size (fun k hk h => by have h2 : w0.heap.size ≤ k := h; omega)))
  clear hr2 hc2 HA1
  go_wp2
  go_loopw [9, 10] (fun v9 v10 wr => ∃ (i : Nat) (l : List Gid) (A3 : Option Addr) (c3 : Nat), v10 = .int .i64 i ∧ v9 = .slice A3 l.length c3 ∧ i ≤ N ∧ l = (List.range i).map lnD ∧ DocS wr (fun k => w0.heap.size ≤ k) A3 c3 l ∧ RepAt wr (KI w0.heap.size A3) w0.heap.size (lnR i) ∧ Below w0.heap.size w0 wr) (fun _ v10 _ => N - (intOf v10).toNat)
  case atStart => exact ⟨0, [], none, 0, rfl, rfl, Nat.zero_le _, rfl, DocS.nil _ _, HR2.out, HB2.out⟩
  case round =>
   clear HR0 HB0 HR2 HB2
   obtain ⟨i, l, A3, c3, rfl, rfl, hiN, hlr, hd, hr, hb⟩ := hrel
   have HLR := Lib.hid hlr
   have HLL : Hid (l.length = i ∧ i ≤ 17) := Lib.hid ⟨by rw [hlr]; simp, by have := HN.out; omega⟩
   have HD := Lib.hid hd
   have HR := Lib.hid hr
   have HB := Lib.hid hb
   have HLB : Hid (∀ q, A3.map (·.block) = some q → q < wr.heap.size) := Lib.hid (fun q e => (hd.1.lt q (map_own e)).2)
   clear hlr hd hr hb
   by_cases hlt : i < N
   · have d1 : decide ((i : Int) < (N : Int)) = true := decide_eq_true (by omega)
     have d1' : decide (i < N) = true := decide_eq_true hlt
     have hi17 : i < 17 := by have := HN.out; omega
     have r3 : IntKind.u8.wrap (i : Int) = (i : Int) := by rw [IntKind.wrap_u8']; omega
     have r5 : IntKind.u8.wrap (97 + (i : Int)) = 97 + (i : Int) := by rw [IntKind.wrap_u8']; omega
     have hcv : (convert 48 9 (.slice (some ⟨wr.heap.size, 0, none⟩) 1 1)).run Tryz.prog (wr.alloc (.cells #[.int .u8 (97 + (i : Int))] 5)) = .ok (.string (strOfNums [97 + (i : Int)])) (wr.alloc (.cells #[.int .u8 (97 + (i : Int))] 5)) :=
      run_str_ints (P := Tryz.prog) (w := wr.alloc (.cells #[.int .u8 (97 + (i : Int))] 5)) 48 9 5 Tryz.underlying48 Tryz.underlying5 Tryz.underlying9 (some ⟨wr.heap.size, 0, none⟩) 1 [97 + (i : Int)] (fun _ => ⟨_, 0, rfl, by simp, fun j hj => by
       obtain rfl : j = 0 := by simpa using hj
       rw [cell_of_row _ _ _ _ _ _ (heap_alloc_new wr _)]; rfl⟩)
     have z1 : (bk et_d).size = 40 := by rw [bk_size]; decide
     have z3 : (strOfNums [97 + (i : Int)]).size = 1 := strOfNums_size _
     have hw1 : IntKind.i64.wrap ((i : Int) + 1) = (i : Int) + 1 := IntWalk.i64_in _ (by omega)
     have hba : Below wr.heap.size wr (wr.alloc (.cells #[.int .u8 (97 + (i : Int))] 5)) := (Below.refl _ _).alloc (Nat.le_refl _) _
     have hbw : Below w0.heap.size w0 (wr.alloc (.cells #[.int .u8 (97 + (i : Int))] 5)) := HB.out.trans (hba.mono HB.out.size)
     rcases Nat.eq_zero_or_pos i with h0 | h0
     · have d3 : decide ((0 : Int) < (i : Int)) = false := decide_eq_false (by omega)
       have d3' : decide (0 < i) = false := decide_eq_false (by omega)
       have HAD := Lib.hid (radd_any (KI w0.heap.size A3) w0.heap.size (lnR i) 1 (lnB i) (wr.alloc (.cells #[.int .u8 (97 + (i : Int))] 5)) (HR.out.below hba) (fun q hq => ⟨by have := hbw.size; have := HB.out.size; omega, fun e => by have := HLB.out q e; have := hba.size; omega⟩) (by rw [lnR_len]; omega) (by have := (ln_len hi17).2; omega))
       unfold AddK at HAD
       rw [ln_add hi17, ln_id hi17, ← ln_txt hi17] at HAD
       unfold lnTxt lnS at HAD
       rw [if_pos h0] at HAD
       have HBW := Lib.hid hba
       clear hba hbw hi17 h0
       go_upto_region 12 with (fail)
       go_wp2_with fail
       refine HAD.out.mono ?_
       rintro e w4 ⟨rfl, hr4, hc4⟩
       have hbA : Below w4.heap.size w4 (w4.alloc (.cells #[.string (bk (lnD i))] 9)) := (Below.refl _ _).alloc (Nat.le_refl _) _
       have hd4 : DocS w4 (fun k => w0.heap.size ≤ k) A3 c3 l := ((HD.out.below HBW.out).own.keep hc4 (fun k hk _ h => h.2 hk.2) (fun k hk _ => hk)).mono fun k hk => hk.1
       have HD4 := Lib.hid hd4
       have HR4 := Lib.hid hr4
       have HC4 := Lib.hid hc4
       have HOA := Lib.hid (hd4.1.alloc (.cells #[.string (bk (lnD i))] 9))
       have HS1 := Lib.hid (Src.one_new (P := Tryz.prog) (w := w4) (u := .string (bk (lnD i))) (t := 9) rfl)
       have HBA := Lib.hid hbA
       have hm9 : l.length + 1 ≤ maxLen := by have := HLL.out; unfold maxLen; omega
       have hb9 : (l.length + 1) * 16 ≤ 140737488355328 := by have := HLL.out; omega
       clear hr4 hc4 hd4 hbA HAD
       go_wp2_with (at_builtin; go_loud (refine wpList_append_S rfl (.tmp 63) (.tmp 78) 32 32 rfl i0 (.string ⟨#[]⟩) 16 (.slice 9) Tryz.underlying32 Tryz.underlying32 (fun _ h => by cases h) hi hz0 hz1 hz2 rfl rfl rfl HOA.out HS1.out hm9 hb9 (Nat.zero_le _) ?_; intro A8 c8 w8; intro ho8 hg8 hw8))
       have HFI := Lib.hid (line_next HD4.out HR4.out HBA.out (by simp) ho8 hg8 hw8 (by have h1 := HB.out.size; have h2 := HBW.out.size; have h3 := HC4.out.size; omega))
       have HLR2 : Hid (l ++ [lnD i] = (List.range (i + 1)).map lnD) := Lib.hid (by rw [HLR.out, List.range_succ, List.map_append]; rfl)
       have HB8 : Hid (Below w0.heap.size w0 w8) := Lib.hid (((HB.out.trans (HBW.out.mono HB.out.size)).trans (HC4.out.below (by have := HB.out.size; have := HBW.out.size; omega) (fun k hk h => by have := h.1; omega))).trans (HFI.out.2.2.below (by have h1 := HB.out.size; have h2 := HBW.out.size; have h3 := HC4.out.size; omega) (fun k hk h => by have := HD4.out.2 k h; omega)))
       clear ho8 hg8 hw8 hm9 hb9
       go_wp2
       go_roundw
       case rel => exact ⟨i + 1, l ++ [lnD i], A8, c8, rfl, by simp, hlt, HLR2.out, HFI.out.1, HFI.out.2.1, HB8.out⟩
       case measure => simp [intOf]; omega
     · have d3 : decide ((0 : Int) < (i : Int)) = true := decide_eq_true (by omega)
       have d3' : decide (0 < i) = true := decide_eq_true (by omega)
       obtain ⟨j, hj⟩ : ∃ j, i = j + 1 := ⟨i - 1, by omega⟩
       have HJ := Lib.hid hj
       have hw0 : IntKind.i64.wrap ((i : Int) - 1) = (j : Int) := by rw [IntWalk.i64_in _ (by omega)]; omega
       clear hj
       have hjl : j < l.length := by have := HLL.out; have := HJ.out; omega
       obtain ⟨b, o, rfl, hbl, f0⟩ := HD.out.cell (i := j) (x := lnD j) (by rw [HLR.out, List.getElem?_map, List.getElem?_range (by have := HJ.out; omega)]; rfl)
       have hle : ¬ (l.length : Int) ≤ j := by omega
       have hj0 : (0 : Int) ≤ j := by omega
       have hjn : (j : Int) < l.length := by omega
       have z4 : (bk (lnD j)).size = 40 := by rw [bk_size]; exact (ln_len (by have := HJ.out; omega)).1
       clear hjl hbl
       have HAD := Lib.hid (radd_any (KI w0.heap.size (some ⟨b, o, none⟩)) w0.heap.size (lnR i) 1 (lnB i) (wr.alloc (.cells #[.int .u8 (97 + (i : Int))] 5)) (HR.out.below hba) (fun q hq => ⟨by have := hbw.size; have := HB.out.size; omega, fun e => by have := HLB.out q e; have := hba.size; omega⟩) (by rw [lnR_len]; omega) (by have := (ln_len hi17).2; omega))
       unfold AddK at HAD
       rw [ln_add hi17, ln_id hi17, ← ln_txt hi17] at HAD
       unfold lnTxt lnS at HAD
       rw [if_neg (by omega), show i - 1 = j by have := HJ.out; omega] at HAD
       have HBW := Lib.hid hba
       clear hba hbw hi17 h0
       go_upto_region 12 with (fail)
       go_wp2_with fail
       refine HAD.out.mono ?_
       rintro e w4 ⟨rfl, hr4, hc4⟩
       have hbA : Below w4.heap.size w4 (w4.alloc (.cells #[.string (bk (lnD i))] 9)) := (Below.refl _ _).alloc (Nat.le_refl _) _
       have hd4 : DocS w4 (fun k => w0.heap.size ≤ k) (some ⟨b, o, none⟩) c3 l := ((HD.out.below HBW.out).own.keep hc4 (fun k hk _ h => h.2 hk.2) (fun k hk _ => hk)).mono fun k hk => hk.1
       have HD4 := Lib.hid hd4
       have HR4 := Lib.hid hr4
       have HC4 := Lib.hid hc4
       have HOA := Lib.hid (hd4.1.alloc (.cells #[.string (bk (lnD i))] 9))
       have HS1 := Lib.hid (Src.one_new (P := Tryz.prog) (w := w4) (u := .string (bk (lnD i))) (t := 9) rfl)
       have HBA := Lib.hid hbA
       have hm9 : l.length + 1 ≤ maxLen := by have := HLL.out; unfold maxLen; omega
       have hb9 : (l.length + 1) * 16 ≤ 140737488355328 := by have := HLL.out; omega
       clear hr4 hc4 hd4 hbA HAD
       go_wp2_with (at_builtin; go_loud (refine wpList_append_S rfl (.tmp 63) (.tmp 78) 32 32 rfl i0 (.string ⟨#[]⟩) 16 (.slice 9) Tryz.underlying32 Tryz.underlying32 (fun _ h => by cases h) hi hz0 hz1 hz2 rfl rfl rfl HOA.out HS1.out hm9 hb9 (Nat.zero_le _) ?_; intro A8 c8 w8; intro ho8 hg8 hw8))
       have HFI := Lib.hid (line_next HD4.out HR4.out HBA.out (by simp) ho8 hg8 hw8 (by have h1 := HB.out.size; have h2 := HBW.out.size; have h3 := HC4.out.size; omega))
       have HLR2 : Hid (l ++ [lnD i] = (List.range (i + 1)).map lnD) := Lib.hid (by rw [HLR.out, List.range_succ, List.map_append]; rfl)
       have HB8 : Hid (Below w0.heap.size w0 w8) := Lib.hid (((HB.out.trans (HBW.out.mono HB.out.size)).trans (HC4.out.below (by have := HB.out.size; have := HBW.out.size; omega) (fun k hk h => by have := h.1; omega))).trans (HFI.out.2.2.below (by have h1 := HB.out.size; have h2 := HBW.out.size; have h3 := HC4.out.size; omega) (fun k hk h => by have := HD4.out.2 k h; omega)))
       clear ho8 hg8 hw8 hm9 hb9
       go_wp2
       go_roundw
       case rel => exact ⟨i + 1, l ++ [lnD i], A8, c8, rfl, by simp, hlt, HLR2.out, HFI.out.1, HFI.out.2.1, HB8.out⟩
       case measure => simp [intOf]; omega
   · have d1 : decide ((i : Int) < (N : Int)) = false := decide_eq_false (by omega)
     have d1' : decide (i < N) = false := decide_eq_false hlt
     obtain rfl : i = N := by omega
     obtain ⟨b, o, rfl, hbl, _⟩ := HD.out.cell (i := 0) (x := lnD 0) (by rw [HLR.out, List.getElem?_map, List.getElem?_range (by have := HN.out; omega)]; rfl)
     have HCE : Hid (∀ j, j < i → wr.cell? ⟨b, o + j, none⟩ = some (.string (bk (lnD j)))) := Lib.hid (fun j hj => by
      obtain ⟨b', o', hA, _, h⟩ := HD.out.cell (i := j) (x := lnD j) (by rw [HLR.out, List.getElem?_map, List.getElem?_range hj]; rfl)
      injection hA with hA
      injection hA with e1 e2
      subst e1; subst e2
      exact h)
     have HBL := Lib.hid hbl
     have HGT := Lib.hid (get_any wr w0.heap.size [])
     rw [show bk [] = ⟨#[]⟩ from rfl] at HGT
     have hll : l.length = i := HLL.out.1
     rw [hll]
     unfold fnV at HGT
     clear hbl hlt d1 d1' hll hiN
     go_wp2_with fail
     refine HGT.out.mono ?_
     rintro e w5 ⟨rfl, hb5, k51, k52⟩
     have HX5 : Hid (LnW (LnF w0.heap.size wr.heap.size b) w0.heap.size wr.heap.size (wr.heap.size + 1) i w5 w5) := Lib.hid ⟨⟨fun k hk => by
      have h1 := block_lt k51
      have h2 := block_lt k52
      have h3 := hb5.size
      unfold LnF at hk
      dsimp only at h1 h2
      omega, (HR.out.keep (S := fun k => wr.heap.size ≤ k) (Chg.of_below hb5) (fun k _ h1 h2 => by omega) (fun k hk hl => .inl ⟨hk.1, fun e => hk.2 (by rw [e]; rfl), hl⟩)), .inr (.inl rfl), .inr (.inr rfl), k51, by rw [show bk [] = ⟨#[]⟩ from rfl]; exact k52⟩, Chg.refl _ _⟩
     have HEW : Hid (∀ W, LnW (LnF w0.heap.size wr.heap.size b) w0.heap.size wr.heap.size (wr.heap.size + 1) i w5 W → Below w.heap.size w W ∧ EnvO W ∧ ∀ j, j < i → W.cell? ⟨b, o + j, none⟩ = some (.string (bk (lnD j)))) := Lib.hid (fun W h => by
      have hs1 := HB.out.size
      have hs2 := hb5.size
      have hb9 : Below w0.heap.size w0 W := (HB.out.trans (hb5.mono HB.out.size)).trans (h.chg.below (by omega) (fun k hk h => by unfold LnF at h; omega))
      have hbW : Below w.heap.size w W := HBW0.out.trans (hb9.mono HBW0.out.size)
      refine ⟨hbW, HE.out.below hbW, fun j hj => ?_⟩
      refine cell_chg ((hb5.cell (p := ⟨b, o + j, none⟩) HBL.out).trans (HCE.out j hj)) h.chg (fun h => ?_)
      have h8 := HBL.out
      unfold LnF at h
      omega)
     have HTT : Hid (¬ LnF w0.heap.size wr.heap.size b 1 ∧ ¬ LnF w0.heap.size wr.heap.size b 2) := Lib.hid (by
      have h1 := HLT.out
      have h2 := HBW0.out.size
      have h3 := HB.out.size
      unfold LnF
      omega)
     have HF0 : Hid (∀ q, wr.heap.size + 2 ≤ q → ¬ LnF w0.heap.size wr.heap.size b q) := Lib.hid (fun q h h2 => by unfold LnF at h2; omega)
     have HS5 : Hid (wr.heap.size + 2 ≤ w5.heap.size) := Lib.hid (by have := block_lt k52; dsimp only at this; omega)
     generalize LnF w0.heap.size wr.heap.size b = F0 at *
     generalize hb1 : wr.heap.size = b1 at *
     generalize hr0 : w0.heap.size = r0 at *
     clear hb5 k51 k52 hb1 hr0 HB HBW0 HR HD HLB HLR HLL HCE HGT
     -- the calls
     obtain ⟨bb, hbb⟩ : ∃ bb, bb = decide (IA ≤ IB) := ⟨_, rfl⟩
     have HBB := Lib.hid hbb
     have HAN : Hid (∀ W, LnW F0 r0 b1 (b1 + 1) i w5 W → Calls Tryz.prog 23 #[.func (.func 38) #[] #[.pointer (some ⟨b1, 0, none⟩), .pointer (some ⟨b1 + 1, 0, none⟩)], .string (bk (lnD IA)), .string (bk (lnD IB)), .int .i64 100] W fun e w' => e = .returned (.tuple #[.bool bb, .int .i64 0]) ∧ LnW F0 r0 b1 (b1 + 1) i w5 w') := Lib.hid (fun W h => by
      rw [HBB.out]
      obtain ⟨rfl, h16⟩ := HN.out
      exact ln_ancW h16 h (HEW.out W h).2.1 HTT.out.1 HTT.out.2 HAB.out.1 HAB.out.2)
     obtain ⟨D, hD⟩ : ∃ D, D = IB - IA := ⟨_, rfl⟩
     have HDD := Lib.hid hD
     have HCU : Hid (∀ W (q1 q2 : Nat), LnW F0 r0 b1 (b1 + 1) i w5 W → StrsAt W (some ⟨q1, 0, none⟩) ([lnD IB].map bk) → StrsAt W (some ⟨q2, 0, none⟩) ([lnD IA].map bk) → w5.heap.size ≤ q2 → Calls Tryz.prog 26 #[.func (.func 38) #[] #[.pointer (some ⟨b1, 0, none⟩), .pointer (some ⟨b1 + 1, 0, none⟩)], .slice (some ⟨q1, 0, none⟩) 1 1, .slice (some ⟨q2, 0, none⟩) 1 1, .int .i64 100] W fun e w' =>
      LnW F0 r0 b1 (b1 + 1) i w5 w' ∧ ∃ (A : Option Addr) (L : List Gid), e = .returned (.tuple #[.slice A D D, .int .i64 0]) ∧ LnL w5.heap.size IA IB D A L w' ∧ Chg F0 W w') := Lib.hid (fun W q1 q2 h h1 h2 hq => by
      obtain ⟨rfl, h16⟩ := HN.out
      refine (ln_cutW HSO.out h16 h (HEW.out W h).2.1 HTT.out.1 HTT.out.2 HAB.out.1 HAB.out.2 _ _ 1 1 D h1 h2 (fun q o' e => by injection e with e; injection e with e1 e2; subst e1; exact HF0.out _ (by have := HS5.out; omega)) HDD.out).mono ?_
      rintro e w' ⟨hx, A, L, he, hL, hc⟩
      exact ⟨hx, A, L, he, ⟨hL.1, hL.2.1, hL.2.2.1, fun q o' e => Nat.le_trans h.chg.size (hL.2.2.2 q o' e)⟩, hc⟩)
     have HNF : Hid (∀ q, w5.heap.size ≤ q → ¬ F0 q) := Lib.hid (fun q hq => HF0.out q (by have := HS5.out; omega))
     have HCL : Hid (∀ W (q1 : Nat) (most : Int), LnW F0 r0 b1 (b1 + 1) i w5 W → StrsAt W (some ⟨q1, 0, none⟩) ([lnD IB].map bk) → Calls Tryz.prog 16 #[.func (.func 38) #[] #[.pointer (some ⟨b1, 0, none⟩), .pointer (some ⟨b1 + 1, 0, none⟩)], .slice (some ⟨q1, 0, none⟩) 1 1, .int .i64 most] W fun e w' =>
      LnW F0 r0 b1 (b1 + 1) i w5 w' ∧ ((most = ((IB + 2 : Nat) : Int) → ∃ A' : Option Addr, e = .returned (.tuple #[.slice A' (IB + 2) (IB + 2), .int .i64 0])) ∧ (most = ((IB + 1 : Nat) : Int) → e = .returned (.tuple #[.slice none 0 0, .int .i64 5])))) := Lib.hid (fun W q1 most h h1 => by
      obtain ⟨rfl, h16⟩ := HN.out
      exact ln_closW HSO.out h16 h (HEW.out W h).2.1 HTT.out.1 HTT.out.2 HAB.out.2 _ 1 h1 most)
     have HI18 : Hid (i < 18) := Lib.hid (by have := HN.out; omega)
     clear HTT HF0 HLT HE HN HBL
     -- the ancestor
     have fA := (HEW.out w5 HX5.out).2.2 IA HAB.out.1
     have fB := (HEW.out w5 HX5.out).2.2 IB HAB.out.2
     have hA0 : (0 : Int) ≤ IA := by omega
     have hAn : (IA : Int) < i := by have := HAB.out; omega
     have hAl : ¬ (i : Int) ≤ IA := by have := HAB.out; omega
     have hB0 : (0 : Int) ≤ IB := by omega
     have hBn : (IB : Int) < i := by have := HAB.out; omega
     have hBl : ¬ (i : Int) ≤ IB := by have := HAB.out; omega
     clear hbb hD
     go_upto_region 14 with (fail)
     go_cut [13, 14] (fun v13 v14 wx => v13 = .bool bb ∧ v14 = .int .i64 0 ∧ LnW F0 r0 b1 (b1 + 1) i w5 wx)
     case first => as_aux_lemma =>
      clear fA fB
      refine wp_region_des (by kernel_rfl) [] [fun z9 => z9 = .func (.func 38) #[] #[.pointer (some ⟨b1, 0, none⟩), .pointer (some ⟨b1 + 1, 0, none⟩)], fun z9 => z9 = .slice (some ⟨b, o, none⟩) i c3, fun z9 => z9 = .int .i64 (IA : Int), fun z9 => z9 = .pointer (some ⟨b, o + IA, none⟩), fun z9 => z9 = .string (bk (lnD IA)), fun z9 => z9 = .slice (some ⟨b, o, none⟩) i c3, fun z9 => z9 = .int .i64 (IB : Int), fun z9 => z9 = .pointer (some ⟨b, o + IB, none⟩), fun z9 => z9 = .string (bk (lnD IB)), fun z9 => z9 = .tuple #[.bool bb, .int .i64 0], fun z9 => z9 = .tuple #[.bool bb, .int .i64 0], fun z9 => z9 = .bool bb, fun z9 => z9 = .int .i64 0, fun z9 => z9 = .bool bb, fun z9 => z9 = .int .i64 0] (JL [] (fun W => LnW F0 r0 b1 (b1 + 1) i w5 W) (fun _ _ _ => True)) (by kernel_rfl) (by kernel_rfl) (by kernel_rfl) rfl (jl_none (HX5.out.below (Below.refl _ _).drew)) ?steps ?done
      case steps =>
       refine ⟨?_, ?_, ?_, ?_, ?_, ?_, ?_, ?_, ?_, ?_, ?_, ?_, ?_, ?_, ?_, trivial⟩
       · intro us au w1 dn ha hdp hni hd hI
         have q12 := slot_far (t := 12) (v := .func (.func 38) #[] #[.pointer (some ⟨b1, 0, none⟩), .pointer (some ⟨b1 + 1, 0, none⟩)]) ha (by kernel_rfl) (by kernel_rfl)
         have p12 := slot_norm q12
         clear ha hd
         exact StepI.pure (v := .func (.func 38) #[] #[.pointer (some ⟨b1, 0, none⟩), .pointer (some ⟨b1 + 1, 0, none⟩)]) rfl rfl (by go_simp) ⟨rfl, jl_step hI hI.1 (fun _ _ h => h) (fun h => absurd h (by decide))⟩
       · intro us au w1 dn ha hdp hni hd hI
         have q9 := slot_far (t := 9) (v := .slice (some ⟨b, o, none⟩) i c3) ha (by kernel_rfl) (by kernel_rfl)
         have p9 := slot_norm q9
         clear ha hd
         exact StepI.pure (v := .slice (some ⟨b, o, none⟩) i c3) rfl rfl (by go_simp) ⟨rfl, jl_step hI hI.1 (fun _ _ h => h) (fun h => absurd h (by decide))⟩
       · intro us au w1 dn ha hdp hni hd hI
         have q1 := slot_far (t := 1) (v := .int .i64 (IA : Int)) ha (by kernel_rfl) (by kernel_rfl)
         have p1 := slot_norm q1
         clear ha hd
         exact StepI.pure (v := .int .i64 (IA : Int)) rfl rfl (by go_simp) ⟨rfl, jl_step hI hI.1 (fun _ _ h => h) (fun h => absurd h (by decide))⟩
       · intro us au w1 dn ha hdp hni hd hI
         have e1 := hd 1 _ (by kernel_rfl) rfl
         have e2 := hd 2 _ (by kernel_rfl) rfl
         have q84 := slot_at (t := 84) 1 ha (by kernel_rfl) (by kernel_rfl) (by kernel_rfl) e1
         have p84 := slot_norm q84
         have q85 := slot_at (t := 85) 2 ha (by kernel_rfl) (by kernel_rfl) (by kernel_rfl) e2
         have p85 := slot_norm q85
         clear ha hd
         exact StepI.pure (v := .pointer (some ⟨b, o + IA, none⟩)) rfl rfl (by go_simp) ⟨rfl, jl_step hI hI.1 (fun _ _ h => h) (fun h => absurd h (by decide))⟩
       · intro us au w1 dn ha hdp hni hd hI
         have e3 := hd 3 _ (by kernel_rfl) rfl
         have q86 := slot_at (t := 86) 3 ha (by kernel_rfl) (by kernel_rfl) (by kernel_rfl) e3
         have p86 := slot_norm q86
         clear ha hd
         have kk := (HEW.out w1 hI.1).2.2 IA HAB.out.1
         exact StepI.pure (v := .string (bk (lnD IA))) rfl rfl (by go_simp) ⟨rfl, jl_step hI hI.1 (fun _ _ h => h) (fun h => absurd h (by decide))⟩
       · intro us au w1 dn ha hdp hni hd hI
         have q9 := slot_far (t := 9) (v := .slice (some ⟨b, o, none⟩) i c3) ha (by kernel_rfl) (by kernel_rfl)
         have p9 := slot_norm q9
         clear ha hd
         exact StepI.pure (v := .slice (some ⟨b, o, none⟩) i c3) rfl rfl (by go_simp) ⟨rfl, jl_step hI hI.1 (fun _ _ h => h) (fun h => absurd h (by decide))⟩
       · intro us au w1 dn ha hdp hni hd hI
         have q2 := slot_far (t := 2) (v := .int .i64 (IB : Int)) ha (by kernel_rfl) (by kernel_rfl)
         have p2 := slot_norm q2
         clear ha hd
         exact StepI.pure (v := .int .i64 (IB : Int)) rfl rfl (by go_simp) ⟨rfl, jl_step hI hI.1 (fun _ _ h => h) (fun h => absurd h (by decide))⟩
       · intro us au w1 dn ha hdp hni hd hI
         have e5 := hd 5 _ (by kernel_rfl) rfl
         have e6 := hd 6 _ (by kernel_rfl) rfl
         have q88 := slot_at (t := 88) 5 ha (by kernel_rfl) (by kernel_rfl) (by kernel_rfl) e5
         have p88 := slot_norm q88
         have q89 := slot_at (t := 89) 6 ha (by kernel_rfl) (by kernel_rfl) (by kernel_rfl) e6
         have p89 := slot_norm q89
         clear ha hd
         exact StepI.pure (v := .pointer (some ⟨b, o + IB, none⟩)) rfl rfl (by go_simp) ⟨rfl, jl_step hI hI.1 (fun _ _ h => h) (fun h => absurd h (by decide))⟩
       · intro us au w1 dn ha hdp hni hd hI
         have e7 := hd 7 _ (by kernel_rfl) rfl
         have q90 := slot_at (t := 90) 7 ha (by kernel_rfl) (by kernel_rfl) (by kernel_rfl) e7
         have p90 := slot_norm q90
         clear ha hd
         have kk := (HEW.out w1 hI.1).2.2 IB HAB.out.2
         exact StepI.pure (v := .string (bk (lnD IB))) rfl rfl (by go_simp) ⟨rfl, jl_step hI hI.1 (fun _ _ h => h) (fun h => absurd h (by decide))⟩
       · intro us au w1 dn ha hdp hni hd hI
         have e0 := hd 0 _ (by kernel_rfl) rfl
         have e4 := hd 4 _ (by kernel_rfl) rfl
         have e8 := hd 8 _ (by kernel_rfl) rfl
         have q83 := slot_at (t := 83) 0 ha (by kernel_rfl) (by kernel_rfl) (by kernel_rfl) e0
         have p83 := slot_norm q83
         have q87 := slot_at (t := 87) 4 ha (by kernel_rfl) (by kernel_rfl) (by kernel_rfl) e4
         have p87 := slot_norm q87
         have q91 := slot_at (t := 91) 8 ha (by kernel_rfl) (by kernel_rfl) (by kernel_rfl) e8
         have p91 := slot_norm q91
         clear ha hd
         refine StepI.call (f := 23) (args := #[.func (.func 38) #[] #[.pointer (some ⟨b1, 0, none⟩), .pointer (some ⟨b1 + 1, 0, none⟩)], .string (bk (lnD IA)), .string (bk (lnD IB)), .int .i64 100]) rfl rfl (by go_simp) ?_
         refine (HAN.out w1 hI.1).mono ?_
         rintro e w6 ⟨rfl, h6⟩
         exact ⟨_, rfl, rfl, jl_step hI h6 (fun _ _ h => h) (fun h => absurd h (by decide))⟩
       · intro us au w1 dn ha hdp hni hd hI
         have e9 := hd 9 _ (by kernel_rfl) rfl
         have q92 := slot_at (t := 92) 9 ha (by kernel_rfl) (by kernel_rfl) (by kernel_rfl) e9
         have p92 := slot_norm q92
         clear ha hd
         exact StepI.pure (v := .tuple #[.bool bb, .int .i64 0]) rfl rfl (by go_simp) ⟨rfl, jl_step hI hI.1 (fun _ _ h => h) (fun h => absurd h (by decide))⟩
       · intro us au w1 dn ha hdp hni hd hI
         have e10 := hd 10 _ (by kernel_rfl) rfl
         have q82 := slot_at (t := 82) 10 ha (by kernel_rfl) (by kernel_rfl) (by kernel_rfl) e10
         have p82 := slot_norm q82
         clear ha hd
         exact StepI.pure (v := .bool bb) rfl rfl (by go_simp) ⟨rfl, jl_step hI hI.1 (fun _ _ h => h) (fun h => absurd h (by decide))⟩
       · intro us au w1 dn ha hdp hni hd hI
         have e10 := hd 10 _ (by kernel_rfl) rfl
         have q82 := slot_at (t := 82) 10 ha (by kernel_rfl) (by kernel_rfl) (by kernel_rfl) e10
         have p82 := slot_norm q82
         clear ha hd
         exact StepI.pure (v := .int .i64 0) rfl rfl (by go_simp) ⟨rfl, jl_step hI hI.1 (fun _ _ h => h) (fun h => absurd h (by decide))⟩
       · intro us au w1 dn ha hdp hni hd hI
         have e11 := hd 11 _ (by kernel_rfl) rfl
         have q93 := slot_at (t := 93) 11 ha (by kernel_rfl) (by kernel_rfl) (by kernel_rfl) e11
         have p93 := slot_norm q93
         clear ha hd
         exact StepI.pure (v := .bool bb) rfl rfl (by go_simp) ⟨rfl, jl_step hI hI.1 (fun _ _ h => h) (fun h => absurd h (by decide))⟩
       · intro us au w1 dn ha hdp hni hd hI
         have e12 := hd 12 _ (by kernel_rfl) rfl
         have q94 := slot_at (t := 94) 12 ha (by kernel_rfl) (by kernel_rfl) (by kernel_rfl) e12
         have p94 := slot_norm q94
         clear ha hd
         exact StepI.pure (v := .int .i64 0) rfl rfl (by go_simp) ⟨rfl, jl_step hI hI.1 (fun _ _ h => h) (fun h => absurd h (by decide))⟩
      case done =>
       intro us w1 hI hd
       have e13 := hd 13 _ (by show 13 < 15; decide) rfl
       have e14 := hd 14 _ (by show 14 < 15; decide) rfl
       have HI := Lib.hid hI.1
       clear hd hI
       simp only [putAll, e13, e14]
       go_simp
       go_wp2_with fail
       go_meet
       exact ⟨rfl, rfl, HI.out⟩
     case rest =>
      obtain ⟨rfl, rfl, hx6⟩ := hcut
      have HX6 := Lib.hid hx6
      clear hx6 fA fB HAN HX5
      generalize wc = w6 at *
      go_upto_region 15 with (fail)
      go_cut [15, 16] (fun v15 v16 wx => ∃ (A : Option Addr) (L : List Gid), v15 = .slice A D D ∧ v16 = .int .i64 0 ∧ LnL w5.heap.size IA IB D A L wx ∧ LnW F0 r0 b1 (b1 + 1) i w5 wx)
      case first => as_aux_lemma =>
       refine wp_region_des (by kernel_rfl) [5, 10, 11, 12, 13, 15] [fun z9 => z9 = .func (.func 38) #[] #[.pointer (some ⟨b1, 0, none⟩), .pointer (some ⟨b1 + 1, 0, none⟩)], fun z9 => z9 = .slice (some ⟨b, o, none⟩) i c3, fun z9 => z9 = .int .i64 (IB : Int), fun z9 => z9 = .pointer (some ⟨b, o + IB, none⟩), fun z9 => z9 = .string (bk (lnD IB)), fun _ => True, fun z9 => z9 = .slice (some ⟨b, o, none⟩) i c3, fun z9 => z9 = .int .i64 (IA : Int), fun z9 => z9 = .pointer (some ⟨b, o + IA, none⟩), fun z9 => z9 = .string (bk (lnD IA)), fun _ => True, fun _ => True, fun _ => True, fun _ => True, fun z9 => z9 = .int .i64 0, fun _ => True, fun z9 => z9 = .int .i64 0] (JL [5, 10, 11, 12, 13, 15] (fun W => LnW F0 r0 b1 (b1 + 1) i w5 W) (PR15 w5.heap.size IA IB D)) (by kernel_rfl) (by kernel_rfl) (by kernel_rfl) rfl (jl_none (HX6.out.below (Below.refl _ _).drew)) ?steps ?done
       case steps =>
        refine ⟨?_, ?_, ?_, ?_, ?_, ?_, ?_, ?_, ?_, ?_, ?_, ?_, ?_, ?_, ?_, ?_, ?_, trivial⟩
        · intro us au w1 dn ha hdp hni hd hI
          have q12 := slot_far (t := 12) (v := .func (.func 38) #[] #[.pointer (some ⟨b1, 0, none⟩), .pointer (some ⟨b1 + 1, 0, none⟩)]) ha (by kernel_rfl) (by kernel_rfl)
          have p12 := slot_norm q12
          clear ha hd
          exact StepI.pure (v := .func (.func 38) #[] #[.pointer (some ⟨b1, 0, none⟩), .pointer (some ⟨b1 + 1, 0, none⟩)]) rfl rfl (by go_simp) ⟨rfl, jl_step hI hI.1 (fun _ _ h => h) (fun h => absurd h (by decide))⟩
        · intro us au w1 dn ha hdp hni hd hI
          have q9 := slot_far (t := 9) (v := .slice (some ⟨b, o, none⟩) i c3) ha (by kernel_rfl) (by kernel_rfl)
          have p9 := slot_norm q9
          clear ha hd
          exact StepI.pure (v := .slice (some ⟨b, o, none⟩) i c3) rfl rfl (by go_simp) ⟨rfl, jl_step hI hI.1 (fun _ _ h => h) (fun h => absurd h (by decide))⟩
        · intro us au w1 dn ha hdp hni hd hI
          have q2 := slot_far (t := 2) (v := .int .i64 (IB : Int)) ha (by kernel_rfl) (by kernel_rfl)
          have p2 := slot_norm q2
          clear ha hd
          exact StepI.pure (v := .int .i64 (IB : Int)) rfl rfl (by go_simp) ⟨rfl, jl_step hI hI.1 (fun _ _ h => h) (fun h => absurd h (by decide))⟩
        · intro us au w1 dn ha hdp hni hd hI
          have e1 := hd 1 _ (by kernel_rfl) rfl
          have e2 := hd 2 _ (by kernel_rfl) rfl
          have q97 := slot_at (t := 97) 1 ha (by kernel_rfl) (by kernel_rfl) (by kernel_rfl) e1
          have p97 := slot_norm q97
          have q98 := slot_at (t := 98) 2 ha (by kernel_rfl) (by kernel_rfl) (by kernel_rfl) e2
          have p98 := slot_norm q98
          clear ha hd
          exact StepI.pure (v := .pointer (some ⟨b, o + IB, none⟩)) rfl rfl (by go_simp) ⟨rfl, jl_step hI hI.1 (fun _ _ h => h) (fun h => absurd h (by decide))⟩
        · intro us au w1 dn ha hdp hni hd hI
          have e3 := hd 3 _ (by kernel_rfl) rfl
          have q99 := slot_at (t := 99) 3 ha (by kernel_rfl) (by kernel_rfl) (by kernel_rfl) e3
          have p99 := slot_norm q99
          clear ha hd
          have kk := (HEW.out w1 hI.1).2.2 IB HAB.out.2
          exact StepI.pure (v := .string (bk (lnD IB))) rfl rfl (by go_simp) ⟨rfl, jl_step hI hI.1 (fun _ _ h => h) (fun h => absurd h (by decide))⟩
        · intro us au w1 dn ha hdp hni hd hI
          have e4 := hd 4 _ (by kernel_rfl) rfl
          have q100 := slot_at (t := 100) 4 ha (by kernel_rfl) (by kernel_rfl) (by kernel_rfl) e4
          have p100 := slot_norm q100
          clear ha hd
          have hbA : Below w1.heap.size w1 (w1.alloc (.cells #[.string (bk (lnD IB))] 9)) := (Below.refl _ _).alloc (Nat.le_refl _) _
          exact StepI.runs (v := .slice (some ⟨w1.heap.size, 0, none⟩) 1 1) (w' := w1.alloc (.cells #[.string (bk (lnD IB))] 9)) rfl rfl (by go_simp) ⟨trivial, jl_step hI (hI.1.below hbA) (fun _ _ h => pr15_keep h (Chg.of_below (S := fun k => w1.heap.size ≤ k) hbA) (fun q _ h1 h2 => by omega)) (fun _ => ⟨w1.heap.size, rfl, hI.1.chg.size, StrsAt.one w1 _⟩)⟩
        · intro us au w1 dn ha hdp hni hd hI
          have q9 := slot_far (t := 9) (v := .slice (some ⟨b, o, none⟩) i c3) ha (by kernel_rfl) (by kernel_rfl)
          have p9 := slot_norm q9
          clear ha hd
          exact StepI.pure (v := .slice (some ⟨b, o, none⟩) i c3) rfl rfl (by go_simp) ⟨rfl, jl_step hI hI.1 (fun _ _ h => h) (fun h => absurd h (by decide))⟩
        · intro us au w1 dn ha hdp hni hd hI
          have q1 := slot_far (t := 1) (v := .int .i64 (IA : Int)) ha (by kernel_rfl) (by kernel_rfl)
          have p1 := slot_norm q1
          clear ha hd
          exact StepI.pure (v := .int .i64 (IA : Int)) rfl rfl (by go_simp) ⟨rfl, jl_step hI hI.1 (fun _ _ h => h) (fun h => absurd h (by decide))⟩
        · intro us au w1 dn ha hdp hni hd hI
          have e6 := hd 6 _ (by kernel_rfl) rfl
          have e7 := hd 7 _ (by kernel_rfl) rfl
          have q102 := slot_at (t := 102) 6 ha (by kernel_rfl) (by kernel_rfl) (by kernel_rfl) e6
          have p102 := slot_norm q102
          have q103 := slot_at (t := 103) 7 ha (by kernel_rfl) (by kernel_rfl) (by kernel_rfl) e7
          have p103 := slot_norm q103
          clear ha hd
          exact StepI.pure (v := .pointer (some ⟨b, o + IA, none⟩)) rfl rfl (by go_simp) ⟨rfl, jl_step hI hI.1 (fun _ _ h => h) (fun h => absurd h (by decide))⟩
        · intro us au w1 dn ha hdp hni hd hI
          have e8 := hd 8 _ (by kernel_rfl) rfl
          have q104 := slot_at (t := 104) 8 ha (by kernel_rfl) (by kernel_rfl) (by kernel_rfl) e8
          have p104 := slot_norm q104
          clear ha hd
          have kk := (HEW.out w1 hI.1).2.2 IA HAB.out.1
          exact StepI.pure (v := .string (bk (lnD IA))) rfl rfl (by go_simp) ⟨rfl, jl_step hI hI.1 (fun _ _ h => h) (fun h => absurd h (by decide))⟩
        · intro us au w1 dn ha hdp hni hd hI
          have e9 := hd 9 _ (by kernel_rfl) rfl
          have q105 := slot_at (t := 105) 9 ha (by kernel_rfl) (by kernel_rfl) (by kernel_rfl) e9
          have p105 := slot_norm q105
          clear ha hd
          have hbA : Below w1.heap.size w1 (w1.alloc (.cells #[.string (bk (lnD IA))] 9)) := (Below.refl _ _).alloc (Nat.le_refl _) _
          exact StepI.runs (v := .slice (some ⟨w1.heap.size, 0, none⟩) 1 1) (w' := w1.alloc (.cells #[.string (bk (lnD IA))] 9)) rfl rfl (by go_simp) ⟨trivial, jl_step hI (hI.1.below hbA) (fun _ _ h => pr15_keep h (Chg.of_below (S := fun k => w1.heap.size ≤ k) hbA) (fun q _ h1 h2 => by omega)) (fun _ => ⟨w1.heap.size, rfl, hI.1.chg.size, StrsAt.one w1 _⟩)⟩
        · intro us au w1 dn ha hdp hni hd hI
          have e0 := hd 0 _ (by kernel_rfl) rfl
          obtain ⟨e5⟩ := hd 5 _ (by kernel_rfl) rfl
          obtain ⟨e10⟩ := hd 10 _ (by kernel_rfl) rfl
          have q96 := slot_at (t := 96) 0 ha (by kernel_rfl) (by kernel_rfl) (by kernel_rfl) e0
          have p96 := slot_norm q96
          have q101 := slot_at (t := 101) 5 ha (by kernel_rfl) (by kernel_rfl) (by kernel_rfl) (Eq.refl (us 5))
          have p101 := slot_norm q101
          have q106 := slot_at (t := 106) 10 ha (by kernel_rfl) (by kernel_rfl) (by kernel_rfl) (Eq.refl (us 10))
          have p106 := slot_norm q106
          clear ha hd
          obtain ⟨g1, h1, hg1, hs1⟩ := jl_get hI (d := 5) (by decide) (hdp 5 (by kernel_rfl))
          obtain ⟨g2, h2, hg2, hs2⟩ := jl_get hI (d := 10) (by decide) (hdp 10 (by kernel_rfl))
          rw [h1] at p101
          rw [h2] at p106
          refine StepI.call (f := 26) (args := #[.func (.func 38) #[] #[.pointer (some ⟨b1, 0, none⟩), .pointer (some ⟨b1 + 1, 0, none⟩)], .slice (some ⟨g1, 0, none⟩) 1 1, .slice (some ⟨g2, 0, none⟩) 1 1, .int .i64 100]) rfl rfl (by go_simp) ?_
          refine (HCU.out w1 g1 g2 hI.1 hs1 hs2 hg2).mono ?_
          rintro e w8 ⟨hx8, A, L, rfl, hL, hc8⟩
          exact ⟨_, rfl, trivial, jl_step hI hx8 (fun _ _ h => pr15_keep h hc8 (fun q hq _ => HNF.out q hq)) (fun _ => ⟨A, L, rfl, hL⟩)⟩
        · intro us au w1 dn ha hdp hni hd hI
          obtain ⟨e11⟩ := hd 11 _ (by kernel_rfl) rfl
          have q107 := slot_at (t := 107) 11 ha (by kernel_rfl) (by kernel_rfl) (by kernel_rfl) (Eq.refl (us 11))
          have p107 := slot_norm q107
          clear ha hd
          exact StepI.pure (v := us 11) rfl rfl (by go_simp) ⟨trivial, jl_step hI hI.1 (fun _ _ h => h) (fun _ => jl_get hI (d := 11) (by decide) (hdp 11 (by kernel_rfl)))⟩
        · intro us au w1 dn ha hdp hni hd hI
          obtain ⟨e12⟩ := hd 12 _ (by kernel_rfl) rfl
          have q95 := slot_at (t := 95) 12 ha (by kernel_rfl) (by kernel_rfl) (by kernel_rfl) (Eq.refl (us 12))
          have p95 := slot_norm q95
          clear ha hd
          obtain ⟨A, L, h12, hL⟩ := jl_get hI (d := 12) (by decide) (hdp 12 (by kernel_rfl))
          rw [h12] at p95
          exact StepI.pure (v := .slice A D D) rfl rfl (by go_simp) ⟨trivial, jl_step hI hI.1 (fun _ _ h => h) (fun _ => ⟨A, L, rfl, hL⟩)⟩
        · intro us au w1 dn ha hdp hni hd hI
          obtain ⟨e12⟩ := hd 12 _ (by kernel_rfl) rfl
          have q95 := slot_at (t := 95) 12 ha (by kernel_rfl) (by kernel_rfl) (by kernel_rfl) (Eq.refl (us 12))
          have p95 := slot_norm q95
          clear ha hd
          obtain ⟨A, L, h12, hL⟩ := jl_get hI (d := 12) (by decide) (hdp 12 (by kernel_rfl))
          rw [h12] at p95
          exact StepI.pure (v := .int .i64 0) rfl rfl (by go_simp) ⟨rfl, jl_step hI hI.1 (fun _ _ h => h) (fun h => absurd h (by decide))⟩
        · intro us au w1 dn ha hdp hni hd hI
          obtain ⟨e13⟩ := hd 13 _ (by kernel_rfl) rfl
          have q108 := slot_at (t := 108) 13 ha (by kernel_rfl) (by kernel_rfl) (by kernel_rfl) (Eq.refl (us 13))
          have p108 := slot_norm q108
          clear ha hd
          exact StepI.pure (v := us 13) rfl rfl (by go_simp) ⟨trivial, jl_step hI hI.1 (fun _ _ h => h) (fun _ => jl_get hI (d := 13) (by decide) (hdp 13 (by kernel_rfl)))⟩
        · intro us au w1 dn ha hdp hni hd hI
          have e14 := hd 14 _ (by kernel_rfl) rfl
          have q109 := slot_at (t := 109) 14 ha (by kernel_rfl) (by kernel_rfl) (by kernel_rfl) e14
          have p109 := slot_norm q109
          clear ha hd
          exact StepI.pure (v := .int .i64 0) rfl rfl (by go_simp) ⟨rfl, jl_step hI hI.1 (fun _ _ h => h) (fun h => absurd h (by decide))⟩
       case done =>
        intro us w1 hI hd
        have e16 := hd 16 _ (by show 16 < 17; decide) rfl
        obtain ⟨A, L, e15, hL⟩ := jl_done hI (d := 15) (by decide)
        have HI := Lib.hid (And.intro hL hI.1)
        clear hd hI hL
        simp only [putAll, e15, e16]
        go_simp
        go_wp2_with fail
        go_meet
        exact ⟨A, L, rfl, rfl, HI.out.1, HI.out.2⟩
      case rest =>
       obtain ⟨AL, L, rfl, rfl, hL, hx7⟩ := hcut
       have HL := Lib.hid hL
       have HX7 := Lib.hid hx7
       clear hL hx7 HX6 HCU
       generalize wc = w7 at *
       obtain ⟨P1, hP1⟩ : ∃ P1, P1 = IA + 1 := ⟨_, rfl⟩
       obtain ⟨E2, hE2⟩ : ∃ E2, E2 = IB + 2 := ⟨_, rfl⟩
       obtain ⟨E1, hE1⟩ : ∃ E1, E1 = IB + 1 := ⟨_, rfl⟩
       have HPE := Lib.hid (And.intro hP1 (And.intro hE2 hE1))
       have hwP : IntKind.i64.wrap ((IA : Int) + 1) = (P1 : Int) := by rw [IntWalk.i64_in _ (by have := HI18.out; omega)]; omega
       have hwE2 : IntKind.i64.wrap ((IB : Int) + 2) = (E2 : Int) := by rw [IntWalk.i64_in _ (by have := HI18.out; omega)]; omega
       have hwE1 : IntKind.i64.wrap ((IB : Int) + 1) = (E1 : Int) := by rw [IntWalk.i64_in _ (by have := HI18.out; omega)]; omega
       have HC2 : Hid (∀ W (q1 : Nat), LnW F0 r0 b1 (b1 + 1) i w5 W → StrsAt W (some ⟨q1, 0, none⟩) ([lnD IB].map bk) → Calls Tryz.prog 16 #[.func (.func 38) #[] #[.pointer (some ⟨b1, 0, none⟩), .pointer (some ⟨b1 + 1, 0, none⟩)], .slice (some ⟨q1, 0, none⟩) 1 1, .int .i64 (E2 : Int)] W fun e w' => LnW F0 r0 b1 (b1 + 1) i w5 w' ∧ ∃ A' : Option Addr, e = .returned (.tuple #[.slice A' E2 E2, .int .i64 0])) := Lib.hid (fun W q1 h1 h2 => by
        refine (HCL.out W q1 (E2 : Int) h1 h2).mono ?_
        rintro e w' ⟨hx, h3, _⟩
        have h4 := h3 (by rw [HPE.out.2.1])
        rw [← HPE.out.2.1] at h4
        exact ⟨hx, h4⟩)
       have HC1 : Hid (∀ W (q1 : Nat), LnW F0 r0 b1 (b1 + 1) i w5 W → StrsAt W (some ⟨q1, 0, none⟩) ([lnD IB].map bk) → Calls Tryz.prog 16 #[.func (.func 38) #[] #[.pointer (some ⟨b1, 0, none⟩), .pointer (some ⟨b1 + 1, 0, none⟩)], .slice (some ⟨q1, 0, none⟩) 1 1, .int .i64 (E1 : Int)] W fun e w' => LnW F0 r0 b1 (b1 + 1) i w5 w' ∧ e = .returned (.tuple #[.slice none 0 0, .int .i64 5])) := Lib.hid (fun W q1 h1 h2 => by
        refine (HCL.out W q1 (E1 : Int) h1 h2).mono ?_
        rintro e w' ⟨hx, _, h3⟩
        exact ⟨hx, h3 (by rw [HPE.out.2.2])⟩)
       have HDL : Hid (D ≤ 18) := Lib.hid (by have := HDD.out; have := HI18.out; omega)
       clear hP1 hE2 hE1 HCL HNF
       go_wp2
       go_loopw [17, 18] (fun v17 v18 wr => ∃ (j q : Nat), v17 = .int .i64 j ∧ v18 = .int .i64 q ∧ q = IA + 1 + j ∧ j ≤ D ∧ wr = w7) (fun _ v18 _ => i + 1 - (intOf v18).toNat)
       case atStart => exact ⟨0, P1, rfl, rfl, HPE.out.1, Nat.zero_le _, rfl⟩
       case round =>
        obtain ⟨j, q, rfl, rfl, hq, hj, hww⟩ := hrel
        have hww2 := hww.symm
        subst hww2
        have HQ := Lib.hid (And.intro hq hj)
        clear hq hj
        by_cases hlt : q ≤ IB
        · have d1 : decide ((q : Int) ≤ (IB : Int)) = true := decide_eq_true (by omega)
          have d1' : decide (q ≤ IB) = true := decide_eq_true hlt
          have HLT2 := Lib.hid hlt
          have fq := (HEW.out w7 HX7.out).2.2 q (by have := HAB.out.2; omega)
          have hq0 : (0 : Int) ≤ q := by omega
          have hqn : (q : Int) < i := by have := HAB.out.2; omega
          have hql : ¬ (i : Int) ≤ q := by have := HAB.out.2; omega
          have hw1 : IntKind.i64.wrap ((j : Int) + 1) = (j : Int) + 1 := IntWalk.i64_in _ (by have := HQ.out.2; have := HDL.out; omega)
          have hw2 : IntKind.i64.wrap ((q : Int) + 1) = (q : Int) + 1 := IntWalk.i64_in _ (by have := HI18.out; have := HAB.out.2; omega)
          have HHA := Lib.hid (rhas_any w7 AL D D L (lnD q) HL.out.1 HL.out.2.1 (by have := HDL.out; omega))
          rw [decide_eq_true (HL.out.2.2.1 q (by have := HQ.out.1; omega) hlt)] at HHA
          go_wp2_with (go_at_call 28; refine HHA.out.mono ?_; rintro e w8 ⟨rfl, hww⟩; have hww2 := hww.symm; subst hww2)
          go_wp2
          go_roundw
          case rel => exact ⟨j + 1, q + 1, rfl, rfl, by have := HQ.out.1; omega, by have := HQ.out; have := HDD.out; have := HLT2.out; omega, by first | rfl | trivial⟩
          case measure => have := HLT2.out; have := HAB.out.2; simp [intOf]; omega
        · have d1 : decide ((q : Int) ≤ (IB : Int)) = false := decide_eq_false (by omega)
          have d1' : decide (q ≤ IB) = false := decide_eq_false hlt
          have hql : ¬ (q : Int) ≤ (IB : Int) := by omega
          have hjD : j = D := by have := HQ.out; have := HDD.out; omega
          subst hjD
          have fB := (HEW.out w7 HX7.out).2.2 IB HAB.out.2
          have hB0 : (0 : Int) ≤ IB := by omega
          have hBn : (IB : Int) < i := by have := HAB.out; omega
          have hBl : ¬ (i : Int) ≤ IB := by have := HAB.out; omega
          have hbA : Below w7.heap.size w7 (w7.alloc (.cells #[.string (bk (lnD IB))] 9)) := (Below.refl _ _).alloc (Nat.le_refl _) _
          have HA := Lib.hid (HC2.out _ w7.heap.size (HX7.out.below hbA) (StrsAt.one w7 (lnD IB)))
          clear hbA
          go_wp2_with fail
          refine HA.out.mono ?_
          rintro e w8 ⟨hx8, A8, rfl⟩
          have HX8 := Lib.hid hx8
          clear hx8 HA fB
          have fB := (HEW.out w8 HX8.out).2.2 IB HAB.out.2
          have hbA : Below w8.heap.size w8 (w8.alloc (.cells #[.string (bk (lnD IB))] 9)) := (Below.refl _ _).alloc (Nat.le_refl _) _
          have HA := Lib.hid (HC1.out _ w8.heap.size (HX8.out.below hbA) (StrsAt.one w8 (lnD IB)))
          clear hbA
          go_wp2_with fail
          refine HA.out.mono ?_
          rintro e w9 ⟨hx9, rfl⟩
          have HB9 := Lib.hid (HEW.out w9 hx9).1
          have HAW := Lib.hid (awake_any HSO.out w9 (HEW.out w9 hx9).2.1)
          clear hx9 HA fB
          by_cases hab : IA ≤ IB
          · have e1 : decide ((IA : Int) ≤ (IB : Int)) = true := decide_eq_true (by omega)
            have e1' : decide (IA ≤ IB) = true := decide_eq_true hab
            obtain rfl : bb = true := HBB.out.trans e1'
            clear hab
            go_wp2_with fail
            refine HAW.out.mono ?_
            rintro e w10 ⟨rfl, hb10⟩
            have HB10 := Lib.hid (HB9.out.trans (hb10.mono HB9.out.size))
            clear hb10
            go_wp2
            go_ret
            exact ⟨rfl, HB10.out⟩
          · have e1 : decide ((IA : Int) ≤ (IB : Int)) = false := decide_eq_false (by omega)
            have e1' : decide (IA ≤ IB) = false := decide_eq_false hab
            have e2 : ¬ (IA : Int) ≤ (IB : Int) := by omega
            obtain rfl : bb = false := HBB.out.trans e1'
            clear hab
            go_wp2_with fail
            refine HAW.out.mono ?_
            rintro e w10 ⟨rfl, hb10⟩
            have HB10 := Lib.hid (HB9.out.trans (hb10.mono HB9.out.size))
            clear hb10
            go_wp2
            go_ret
            exact ⟨rfl, HB10.out⟩
end Go.Proofs.YtihanglnjghcfaaGreatDoor
