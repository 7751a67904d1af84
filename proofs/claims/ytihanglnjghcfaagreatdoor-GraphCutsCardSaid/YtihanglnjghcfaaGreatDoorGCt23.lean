/- What hangs on some IDs as far as it is there: the document's There. -/
import Derived.Test.YtihanglnjghcfaaGreatDoorGCt22
namespace Go.Proofs.YtihanglnjghcfaaGreatDoor
open Go.RowKit Go.Maps
set_option linter.unusedVariables false
set_option linter.unusedSimpArgs false

theorem parG_snoc (p : Gid) : ∀ (ps l : List Gid), parG l (ps ++ [p]) = if p ∈ parG l ps then parG l ps else parG l ps ++ [p]
 | [], l => rfl
 | q :: ps, l => by
  have e : parG l (q :: ps ++ [p]) = parG (if q ∈ l then l else l ++ [q]) (ps ++ [p]) := rfl
  have e2 : parG l (q :: ps) = parG (if q ∈ l then l else l ++ [q]) ps := rfl
  rw [e, e2, parG_snoc p ps]
theorem th_some {G : Gid → Option Kn} {d : Gid} {o : Kn} (h : G d = some o) : thereB (gobG G) d = true := by unfold thereB gobG; rw [h]; rfl
theorem th_none {G : Gid → Option Kn} {d : Gid} (h : G d = none) : thereB (gobG G) d = false := by unfold thereB gobG; rw [h]; rfl
def linkIds (ks : List Lk) : List Gid := ks.map fun k => k.id.data.toList
theorem ids_gob {o : Kn} {ks : List Lk} (h : lkOf o.kd o.b = some ks) : idsG (gobK o) = linkIds ks := by
 unfold idsG gobK linkIds
 rw [h]
 simp [lkG]
theorem ids_gobN {o : Kn} (h : lkOf o.kd o.b = none) : idsG (gobK o) = [] := by
 unfold idsG gobK
 rw [h]; rfl
/-- What the document's walk keeps from round to round. -/
structure RThI (R : List Kn) (U L0 : List Gid) (w : World) (i : Nat) (l : List Gid) (A2 : Option Addr) (c2 : Nat) (wr : World) : Prop where
 low : Below w.heap.size w wr
 at' : DocS wr (fun k => w.heap.size ≤ k) A2 c2 l
 run : ∀ M, ThRunD (gobG (getK R)) i l M → ThRunD (gobG (getK R)) 0 L0 M
 nd : l.Nodup
 inU : ∀ x ∈ l, x ∈ U
 all : ∀ x ∈ l, ∃ o, getK R x = some o
def RTherePost (R : List Kn) (L0 : List Gid) (w : World) (e : Ending) (w' : World) : Prop :=
 Below w.heap.size w w' ∧ ∃ M A c, ThRunD (gobG (getK R)) 0 L0 M ∧ M.length ≤ 268435456 ∧ e = .returned (.slice A M.length c) ∧ StrsAt w' A (M.map bk)
set_option maxRecDepth 100000 in
set_option maxHeartbeats 8000000 in
theorem rthere_any (w : World) (K : Nat → Prop) (r : Nat) (R : List Kn) (U : List Gid) (A : Option Addr) (n c : Nat) (rs : List Gid) (hR : RepAt w K r R) (hRl : R.length ≤ 1073741824) (hU : Univ (getK R) U) (hS : StrsAt w A (rs.map bk)) (hn : rs.length = n) (hl : n ≤ 268435456) (hrU : ∀ r ∈ rs, r ∈ U) :
 Calls Tryz.prog 48 #[.pointer (some ⟨r, 0, none⟩), .slice A n c] w (RTherePost R (parG [] (rs.filter (thereB (gobG (getK R))))) w) := by
 obtain ⟨i0, hi, hz0, hz1, hz2⟩ := info_parts info_str1
 have HR := Lib.hid hR
 have HRL := Lib.hid hRl
 have HU := Lib.hid hU
 have HS := Lib.hid hS
 have HN := Lib.hid (And.intro hn hl)
 have HRU := Lib.hid hrU
 clear hR hRl hU hS hrU
 go_enter Tryz.func48, Tryz.ntmps48
 go_wp2
 go_loopw [5, 6] (fun v5 v6 wr => ∃ (i : Nat) (l : List Gid) (A2 : Option Addr) (c2 : Nat), v6 = .int .i64 i ∧ v5 = .slice A2 l.length c2 ∧ i ≤ n ∧ l = parG [] ((rs.take i).filter (thereB (gobG (getK R)))) ∧ DocS wr (fun k => w.heap.size ≤ k) A2 c2 l ∧ Below w.heap.size w wr ∧ l.length ≤ i) (fun _ v6 _ => n - (intOf v6).toNat)
 case atStart => exact ⟨0, [], none, 0, rfl, rfl, Nat.zero_le _, rfl, DocS.nil _ _, Below.refl _ _, Nat.le_refl _⟩
 case round =>
  obtain ⟨i, l, A2, c2, rfl, rfl, hin, hlr, hd, hb, hll⟩ := hrel
  have HD := Lib.hid hd
  have HB := Lib.hid hb
  have HLR := Lib.hid hlr
  have HLN := Lib.hid hll
  clear hd hb hlr hll
  generalize wr = w1 at *
  by_cases hlt : i < n
  · have d1 : decide ((i : Int) < (n : Int)) = true := decide_eq_true (by omega)
    have d1' : decide (i < n) = true := decide_eq_true hlt
    have hrn : i < rs.length := by omega
    obtain ⟨b, o, rfl, hbl, hcl⟩ := HS.out (by rw [List.length_map]; omega)
    have hc0 := hcl i (bk rs[i]) (by rw [List.getElem?_map, List.getElem?_eq_getElem hrn]; rfl)
    have HTK : Hid (parG [] ((rs.take (i + 1)).filter (thereB (gobG (getK R)))) = if thereB (gobG (getK R)) rs[i] = true then (if rs[i] ∈ l then l else l ++ [rs[i]]) else l) := Lib.hid (by
     rw [List.take_add_one, List.getElem?_eq_getElem hrn, List.filter_append]
     by_cases ht : thereB (gobG (getK R)) rs[i] = true
     · rw [if_pos ht, HLR.out, ← parG_snoc]
       congr 1
       simp [ht]
     · rw [if_neg ht, HLR.out]
       congr 1
       simp [ht])
    generalize rs[i] = d at *
    have f0 : w1.cell? ⟨b, o + i, none⟩ = some (.string (bk d)) := (HB.out.cell (p := ⟨b, o + i, none⟩) hbl).trans hc0
    have HF0 := Lib.hid f0
    have HGE := Lib.hid (rget_any w1 K r R d (HR.out.below HB.out) HRL.out)
    have hle : ¬ (n : Int) ≤ i := by omega
    have hn0 : (0 : Int) ≤ i := by omega
    have hnl : (i : Int) < n := by omega
    have hw1 : IntKind.i64.wrap ((i : Int) + 1) = (i : Int) + 1 := IntWalk.i64_in _ (by omega)
    clear hcl hc0 hbl hrn
    cases hgk : getK R d with
    | none =>
     have HTK2 : Hid (parG [] ((rs.take (i + 1)).filter (thereB (gobG (getK R)))) = l) := Lib.hid (by rw [HTK.out, th_none hgk]; rfl)
     rw [hgk] at HGE
     unfold getV zeroK at HGE
     clear hgk
     go_upto_region 6 with (go_at_call 29; refine HGE.out.mono ?_; rintro e w2 ⟨rfl, hb2⟩; have HB2 := Lib.hid hb2; clear hb2)
     have hB3 : Below w1.heap.size w1 (w2.alloc (.cells #[.int .i64 0, .string ⟨#[]⟩, .string ⟨#[]⟩] 27)) := HB2.out.alloc HB2.out.size _
     generalize w2.alloc (.cells #[.int .i64 0, .string ⟨#[]⟩, .string ⟨#[]⟩] 27) = w3 at *
     have HD3 := Lib.hid (HD.out.below hB3)
     have HB3 := Lib.hid (HB.out.trans (hB3.mono HB.out.size))
     clear hB3 f0
     go_wp2
     go_roundw
     case rel => exact ⟨i + 1, l, A2, c2, rfl, rfl, hlt, HTK2.out.symm, HD3.out, HB3.out, by have := HLN.out; omega⟩
     case measure => simp [intOf]; omega
    | some o9 =>
     have HTK2 : Hid (parG [] ((rs.take (i + 1)).filter (thereB (gobG (getK R)))) = if d ∈ l then l else l ++ [d]) := Lib.hid (by rw [HTK.out, th_some hgk]; rfl)
     rw [hgk] at HGE
     unfold getV knA at HGE
     clear hgk
     go_upto_region 6 with (go_at_call 29; refine HGE.out.mono ?_; rintro e w2 ⟨rfl, hb2⟩; have HB2 := Lib.hid hb2; clear hb2)
     have hB3 : Below w1.heap.size w1 (w2.alloc (.cells #[.int .i64 o9.kd, .string (bk o9.b), .string (bk o9.id)] 27)) := HB2.out.alloc HB2.out.size _
     generalize w2.alloc (.cells #[.int .i64 o9.kd, .string (bk o9.b), .string (bk o9.id)] 27) = w3 at *
     have HD3 := Lib.hid (HD.out.below hB3)
     have HB3 := Lib.hid (HB.out.trans (hB3.mono HB.out.size))
     have g0 : w3.cell? ⟨b, o + i, none⟩ = some (.string (bk d)) := (hB3.cell (p := ⟨b, o + i, none⟩) (block_lt f0)).trans f0
     have HHA := Lib.hid (rhas_any w3 A2 l.length c2 l d HD3.out.strs rfl (by have := HLN.out; omega))
     clear hB3 f0
     by_cases hm : d ∈ l
     · have HTK3 : Hid (parG [] ((rs.take (i + 1)).filter (thereB (gobG (getK R)))) = l) := Lib.hid (by rw [HTK2.out, if_pos hm])
       rw [decide_eq_true hm] at HHA
       clear hm
       go_wp2_with (go_at_call 28; refine HHA.out.mono ?_; rintro e w8 ⟨rfl, hww⟩; have hww2 := hww.symm; subst hww2)
       go_wp2
       go_roundw
       case rel => exact ⟨i + 1, l, A2, c2, rfl, rfl, hlt, HTK3.out.symm, HD3.out, HB3.out, by have := HLN.out; omega⟩
       case measure => simp [intOf]; omega
     · have HTK3 : Hid (parG [] ((rs.take (i + 1)).filter (thereB (gobG (getK R)))) = l ++ [d]) := Lib.hid (by rw [HTK2.out, if_neg hm])
       have HOA := Lib.hid (HD3.out.1.alloc (.cells #[.string (bk d)] 9))
       have HBA : Hid (Below w.heap.size w (w3.alloc (.cells #[.string (bk d)] 9))) := Lib.hid (HB3.out.alloc HB3.out.size _)
       have HS1 := Lib.hid (Src.one_new (P := Tryz.prog) (w := w3) (u := .string (bk d)) (t := 9) rfl)
       have hm9 : l.length + 1 ≤ maxLen := by have := HLN.out; unfold maxLen; omega
       have hb9 : (l.length + 1) * 16 ≤ 140737488355328 := by have := HLN.out; omega
       rw [decide_eq_false hm] at HHA
       clear hm
       go_wp2_with (first | (at_builtin; go_loud (refine wpList_append_S rfl (.tmp 43) (.tmp 48) 32 32 rfl i0 (.string ⟨#[]⟩) 16 (.slice 9) Tryz.underlying32 Tryz.underlying32 (fun _ h => by cases h) hi hz0 hz1 hz2 rfl rfl rfl HOA.out HS1.out hm9 hb9 (Nat.zero_le _) ?_; intro A8 c8 w8; intro ho8 hg8 hw8)) | (go_at_call 28; refine HHA.out.mono ?_; rintro e w8 ⟨rfl, hww⟩; have hww2 := hww.symm; subst hww2))
       have HD8 := Lib.hid ((show DocS _ _ A2 c2 l from ⟨HOA.out, HD3.out.2⟩).snoc (x := d) ho8 hw8 (by have := HBA.out.size; exact this))
       have HB8 := Lib.hid (HBA.out.grown hg8 HBA.out.size (fun j hj => HD3.out.2 j hj))
       clear ho8 hg8 hw8 hm9 hb9
       go_wp2
       go_roundw
       case rel => exact ⟨i + 1, l ++ [d], A8, c8, rfl, by simp, hlt, HTK3.out.symm, HD8.out, HB8.out, by have := HLN.out; simp; omega⟩
       case measure => simp [intOf]; omega
  · have d1 : decide ((i : Int) < (n : Int)) = false := decide_eq_false (by omega)
    have d1' : decide (i < n) = false := decide_eq_false hlt
    have HI0 : Hid (RThI R U (parG [] (rs.filter (thereB (gobG (getK R))))) w 0 l A2 c2 w1) := Lib.hid (by
     have e : parG [] (rs.filter (thereB (gobG (getK R)))) = l := by rw [HLR.out, List.take_of_length_le (by omega)]
     have hmm : ∀ x ∈ l, x ∈ rs ∧ thereB (gobG (getK R)) x = true := fun x hx => by
      rw [← e] at hx
      rcases (parG_mem _ _).1 hx with h | h
      · simp at h
      · exact ⟨(List.mem_filter.1 h).1, (List.mem_filter.1 h).2⟩
     have hal : ∀ x ∈ l, ∃ o, getK R x = some o := fun x hx => by
      have h := (hmm x hx).2
      cases hg : getK R x with
      | none => rw [th_none hg] at h; cases h
      | some o => exact ⟨o, rfl⟩
     exact ⟨HB.out, HD.out, fun M h => by rw [e]; exact h, by rw [← e]; exact parG_nodup _ _ List.nodup_nil, fun x hx => HRU.out x (hmm x hx).1, hal⟩)
    clear HD HB HLR HLN hlt hin
    generalize w1 = w0 at *
    go_wp2
    go_loopw [5, 9] (fun v5 v9 wr => ∃ (i : Nat) (l : List Gid) (A2 : Option Addr) (c2 : Nat), v9 = .int .i64 i ∧ v5 = .slice A2 l.length c2 ∧ RThI R U (parG [] (rs.filter (thereB (gobG (getK R))))) w i l A2 c2 wr) (fun _ v9 _ => U.length - (intOf v9).toNat)
    case atStart => exact ⟨0, _, _, _, rfl, rfl, HI0.out⟩
    case round =>
     clear HI0
     obtain ⟨i, l, A2, c2, rfl, rfl, hI⟩ := hrel
     have HI := Lib.hid hI
     have HLU : Hid (l.length ≤ U.length ∧ U.length ≤ 268435456) := Lib.hid ⟨nodup_sub_len l U hI.nd hI.inU, HU.out.num⟩
     clear hI
     generalize wr = w1 at *
     by_cases hlt : i < l.length
     · have d1 : decide ((i : Int) < (l.length : Int)) = true := decide_eq_true (by omega)
       have d1' : decide (i < l.length) = true := decide_eq_true hlt
       have HLT := Lib.hid hlt
       obtain ⟨x, hx⟩ : ∃ x, l[i]? = some x := ⟨_, List.getElem?_eq_getElem hlt⟩
       have HX := Lib.hid hx
       obtain ⟨b2, o2, rfl, hbl, f0⟩ := HI.out.at'.cell hx
       have HGE := Lib.hid (rget_any w1 K r R x (HR.out.below HI.out.low) HRL.out)
       obtain ⟨o9, hgk⟩ := HI.out.all x (List.mem_of_getElem? hx)
       have HGX := Lib.hid hgk
       have HZ9 := Lib.hid (HU.out.sz _ _ hgk)
       have hle : ¬ (l.length : Int) ≤ i := by omega
       have hn0 : (0 : Int) ≤ i := by omega
       have hnl : (i : Int) < l.length := by omega
       have hw1 : IntKind.i64.wrap ((i : Int) + 1) = (i : Int) + 1 := IntWalk.i64_in _ (by have := HLU.out; omega)
       rw [hgk] at HGE
       unfold getV knA at HGE
       clear hlt hx hbl hgk
       go_upto_region 12 with (go_at_call 29; refine HGE.out.mono ?_; rintro e w2 ⟨rfl, hb2⟩; have HB2 := Lib.hid hb2; clear hb2)
       have hB3 : Below w2.heap.size w2 (w2.alloc (.cells #[.int .i64 o9.kd, .string (bk o9.b), .string (bk o9.id)] 27)) := (Below.refl _ _).alloc (Nat.le_refl _) _
       have hC3 := Cel.new w2 27 #[.int .i64 o9.kd, .string (bk o9.b), .string (bk o9.id)] (fun j => (knA o9).getD j undef) (fun j hj => by
        have : j = 0 ∨ j = 1 ∨ j = 2 := by simp at hj; omega
        rcases this with rfl | rfl | rfl <;> rfl)
       generalize w2.alloc (.cells #[.int .i64 o9.kd, .string (bk o9.b), .string (bk o9.id)] 27) = w3 at *
       generalize hg3 : w2.heap.size = g3 at *
       have HB3 : Hid (Below w1.heap.size w1 w3) := Lib.hid (HB2.out.trans (hB3.mono (by rw [← hg3]; exact HB2.out.size)))
       have kj0 : w3.cell? ⟨g3, 0, none⟩ = some (.int .i64 o9.kd) := hC3.cell 0 (show 0 < 3 by decide)
       have kj1 : w3.cell? ⟨g3, 1, none⟩ = some (.string (bk o9.b)) := hC3.cell 1 (show 1 < 3 by decide)
       have HPA := Lib.hid (rparse_any o9.kd o9.b w3 (by have := HZ9.out; omega))
       clear hB3 hC3 hg3 f0 HGE HB2
       go_wp2_with fail
       refine HPA.out.mono ?_
       rintro e w6 ⟨hb6, ⟨hno, m9, hm9, rfl⟩ | ⟨x8, ks, rfl, h8⟩⟩
       · have hm9' : ¬ m9 = 0 := by simpa using hm9
         have HB6 : Hid (Below w1.heap.size w1 w6) := Lib.hid (HB3.out.trans (hb6.mono HB3.out.size))
         have HSTEP : Hid (thStepD (gobG (getK R)) l x = l) := Lib.hid (by
          unfold thStepD gobG
          rw [HGX.out, Option.map_some]
          dsimp only
          rw [ids_gobN hno]; rfl)
         clear hb6 hno HPA kj0 kj1
         have hCZ := CelV.new w6 zeroV rfl
         go_upto_region 13 with (refine wpList_store_part (vs := zeroV) (off := 0) rfl (.tmp 12) (.tmp 71) rfl rfl rfl hCZ info_o8 (Nat.le_refl 12) zeroV_one ?_; intro w7 hC7 hg7 hs7)
         have hb7 : Below w1.heap.size w1 w7 := (HB6.out.alloc HB6.out.size _).grown hg7 (by have := HB6.out.size; simp; omega) (fun k h => by injection h with h; rw [← h]; exact HB6.out.size)
         have HFI : Hid (RThI R U (parG [] (rs.filter (thereB (gobG (getK R))))) w (i + 1) l (some ⟨b2, o2, none⟩) c2 w7) := Lib.hid {
          low := HI.out.low.trans (hb7.mono HI.out.low.size)
          at' := HI.out.at'.below hb7
          run := fun M h => HI.out.run M (.step HX.out (by rw [HSTEP.out]; exact h))
          nd := HI.out.nd
          inU := HI.out.inU
          all := HI.out.all }
         clear hC7 hg7 hs7 hCZ hb7
         go_wp2
         go_roundw
         case rel => exact ⟨i + 1, l, _, c2, rfl, rfl, HFI.out⟩
         case measure => have := HLU.out; have := HLT.out; simp [intOf]; omega
       · have HKN : Hid (ks.length ≤ 268435457) := Lib.hid (by have := lkOf_num h8.lk; have := HZ9.out; omega)
         have HSTEP : Hid (thStepD (gobG (getK R)) l x = parG l ((linkIds ks).filter (thereB (gobG (getK R))))) := Lib.hid (by
          unfold thStepD
          rw [show gobG (getK R) x = some (gobK o9) by unfold gobG; rw [HGX.out]; rfl]
          dsimp only
          rw [ids_gob h8.lk])
         have HKU := Lib.hid (HU.out.lk x o9 ks HGX.out h8.lk)
         have HB6 : Hid (Below w3.heap.size w3 w6) := Lib.hid hb6
         have HLK := Lib.hid h8.links
         have HV1 := Lib.hid h8.one
         have hCZ := CelV.new w6 zeroV rfl
         have hB7 : Below w6.heap.size w6 (w6.alloc (.cells zeroV 67)) := (Below.refl _ _).alloc (Nat.le_refl _) _
         clear hb6 h8 HPA kj0 kj1
         unfold Ob8.V at HV1 ⊢
         go_upto_region 13 with (refine wpList_store_part (vs := #[.int .i64 x8.kd, .string x8.d, x8.vL, .string x8.t, x8.vP, .string x8.a, .string x8.c, .string x8.o, .string x8.n, .int .i64 x8.ty, .string x8.g, .string x8.m]) (off := 0) rfl (.tmp 12) (.tmp 71) rfl rfl rfl hCZ info_o8 (Nat.le_refl 12) HV1.out ?_; intro w7 hC7 hg7 hs7; have hC7b := CelV.stored rfl hC7)
         have HCV := Lib.hid hC7b
         have hb7 : Below w6.heap.size w6 w7 := hB7.grown hg7 (by simp) (fun k h => by injection h with h; exact Nat.le_of_eq h)
         clear hC7 hC7b hg7 hs7 hB7 hCZ
         generalize hg7 : w6.heap.size = g7 at *
         unfold Ob8.V at HLK
         have HLK7 := Lib.hid (HLK.out w7 (Chg.of_below (by rw [hg7]; exact hb7)))
         have HB7 : Hid (Below w1.heap.size w1 w7) := Lib.hid ((HB3.out.trans (HB6.out.mono HB3.out.size)).trans (hb7.mono (by rw [← hg7]; have := HB3.out.size; have := HB6.out.size; omega)))
         clear hb7 HLK hg7 HB3 HB6
         go_wp2_with (first
          | (refine wpList_load_part (vs := #[.int .i64 x8.kd, .string x8.d, x8.vL, .string x8.t, x8.vP, .string x8.a, .string x8.c, .string x8.o, .string x8.n, .int .i64 x8.ty, .string x8.g, .string x8.m]) (off := 0) rfl (.tmp 12) rfl rfl HCV.out Tryz.underlying67 rfl info_o8 (Nat.le_refl 12) (fun j hj => by rw [Nat.zero_add]; exact getD_some hj) ?_)
          | (go_at_call 31; refine HLK7.out.mono ?_; rintro e w9 ⟨hb9, A9, c9, rfl, ho9⟩; have HB9 := Lib.hid hb9; have HO9 := Lib.hid ho9; clear hb9 ho9))
         have HSZ : Hid (w.heap.size ≤ w1.heap.size ∧ w1.heap.size ≤ w7.heap.size ∧ w7.heap.size ≤ w9.heap.size) := Lib.hid ⟨HI.out.low.size, HB7.out.size, HB9.out.size⟩
         have HB19 : Hid (Below w1.heap.size w1 w9) := Lib.hid (HB7.out.trans (HB9.out.mono HB7.out.size))
         have HD9 : Hid (DocS w9 (fun k => (w.heap.size ≤ k ∧ k < w7.heap.size) ∨ w9.heap.size ≤ k) (some ⟨b2, o2, none⟩) c2 l) := Lib.hid (HI.out.at'.keep (S := fun k => w1.heap.size ≤ k) (Chg.of_below HB19.out) (fun k _ h1 h2 => by omega) (fun k hk h2 => .inl ⟨hk, by have := HSZ.out; omega⟩))
         clear HLK7 HB7 HCV HV1
         go_wp2
         go_loopw [5, 15] (fun v5 v15 wr => ∃ (j : Nat) (l' : List Gid) (A3 : Option Addr) (c3 : Nat), v15 = .int .i64 j ∧ v5 = .slice A3 l'.length c3 ∧ j ≤ ks.length ∧ DocS wr (fun k => (w.heap.size ≤ k ∧ k < w7.heap.size) ∨ w9.heap.size ≤ k) A3 c3 l' ∧ Chg (fun k => (w.heap.size ≤ k ∧ k < w7.heap.size) ∨ w9.heap.size ≤ k) w9 wr ∧ parG l ((linkIds ks).filter (thereB (gobG (getK R)))) = parG l' ((linkIds (ks.drop j)).filter (thereB (gobG (getK R)))) ∧ l'.Nodup ∧ (∀ q ∈ l', q ∈ U) ∧ ∀ q ∈ l', ∃ o, getK R q = some o) (fun _ v15 _ => ks.length - (intOf v15).toNat)
         case atStart => exact ⟨0, l, _, c2, rfl, rfl, Nat.zero_le _, HD9.out, Chg.refl _ _, by rw [List.drop_zero], HI.out.nd, HI.out.inU, HI.out.all⟩
         case round =>
          obtain ⟨j, l', A3, c3, rfl, rfl, hj, hd', hcr, hlk', hnd, hin, hal⟩ := hrel
          have HDR := Lib.hid hd'
          have HCR := Lib.hid hcr
          have HLR := Lib.hid hlk'
          have HND := Lib.hid (And.intro hnd (And.intro hin hal))
          have HLB : Hid (l'.length ≤ 268435456) := Lib.hid (by have := nodup_sub_len l' U hnd hin; have := HLU.out.2; omega)
          have HBW : Hid (Below w.heap.size w wr) := Lib.hid ((HI.out.low.trans (HB19.out.mono HI.out.low.size)).trans (hcr.below (by have := HSZ.out; omega) (fun k hk h => by have := HSZ.out; omega)))
          clear hd' hcr hlk' hnd hin hal HD9
          generalize wr = wq at *
          by_cases hlt : j < ks.length
          · have d3 : decide ((j : Int) < (ks.length : Int)) = true := decide_eq_true (by omega)
            have d3' : decide (j < ks.length) = true := decide_eq_true hlt
            have hor := HO9.out.chg HCR.out (fun k hk h => by have h1 := HO9.out.lt k hk; omega)
            obtain ⟨kb, ko, rfl, _, hkl, hkc⟩ := OwnS.flat (g := lkV) (fun _ => rfl) (by decide) hor (List.getElem?_eq_getElem hlt)
            have HDR2 : Hid (linkIds (ks.drop j) = ks[j].id.data.toList :: linkIds (ks.drop (j + 1))) := Lib.hid (by rw [List.drop_eq_getElem_cons hlt]; rfl)
            have HYU : Hid (ks[j].id.data.toList ∈ U) := Lib.hid (HKU.out _ (List.getElem_mem hlt))
            generalize ks[j] = y at *
            obtain ⟨yi, yk⟩ := y
            obtain ⟨d, rfl⟩ : ∃ d, yi = bk d := ⟨_, (bk_of yi).symm⟩
            dsimp only at HDR2 HYU
            rw [bk_list] at HDR2 HYU
            have f1 : wq.cell? ⟨kb, ko + j * 2, none⟩ = some (.string (bk d)) := hkc 0 (by decide)
            have hle2 : ¬ (ks.length : Int) ≤ j := by omega
            have hj0 : (0 : Int) ≤ j := by omega
            have hjl : (j : Int) < ks.length := by omega
            have hw2 : IntKind.i64.wrap ((j : Int) + 1) = (j : Int) + 1 := IntWalk.i64_in _ (by have := HKN.out; omega)
            have HKL := Lib.hid hkl
            have HGE2 := Lib.hid (rget_any wq K r R d (HR.out.below HBW.out) HRL.out)
            clear hor hkl hkc
            cases hgk2 : getK R d with
            | none =>
             have HNX : Hid (parG l ((linkIds ks).filter (thereB (gobG (getK R)))) = parG l' ((linkIds (ks.drop (j + 1))).filter (thereB (gobG (getK R))))) := Lib.hid (by rw [HLR.out, HDR2.out, List.filter_cons_of_neg (by rw [th_none hgk2]; simp)])
             rw [hgk2] at HGE2
             unfold getV zeroK at HGE2
             clear hgk2
             go_upto_region 19 with (go_at_call 29; refine HGE2.out.mono ?_; rintro e w2 ⟨rfl, hb2⟩; have HB2 := Lib.hid hb2; clear hb2)
             have hB4 : Below wq.heap.size wq (w2.alloc (.cells #[.int .i64 0, .string ⟨#[]⟩, .string ⟨#[]⟩] 27)) := HB2.out.alloc HB2.out.size _
             generalize w2.alloc (.cells #[.int .i64 0, .string ⟨#[]⟩, .string ⟨#[]⟩] 27) = w4 at *
             have HD4 := Lib.hid (HDR.out.below hB4)
             have HC4 := Lib.hid (HCR.out.trans (Chg.of_below (S := fun _ => False) hB4) (fun _ _ h => h.elim))
             clear hB4 f1
             go_wp2
             go_roundw
             case rel => exact ⟨j + 1, l', A3, c3, rfl, rfl, hlt, HD4.out, HC4.out, HNX.out, HND.out.1, HND.out.2.1, HND.out.2.2⟩
             case measure => simp [intOf]; omega
            | some o10 =>
             have HNX : Hid (parG l ((linkIds ks).filter (thereB (gobG (getK R)))) = parG (if d ∈ l' then l' else l' ++ [d]) ((linkIds (ks.drop (j + 1))).filter (thereB (gobG (getK R))))) := Lib.hid (by rw [HLR.out, HDR2.out, List.filter_cons_of_pos (by rw [th_some hgk2])]; rfl)
             have HG10 := Lib.hid hgk2
             rw [hgk2] at HGE2
             unfold getV knA at HGE2
             clear hgk2
             go_upto_region 19 with (go_at_call 29; refine HGE2.out.mono ?_; rintro e w2 ⟨rfl, hb2⟩; have HB2 := Lib.hid hb2; clear hb2)
             have hB4 : Below wq.heap.size wq (w2.alloc (.cells #[.int .i64 o10.kd, .string (bk o10.b), .string (bk o10.id)] 27)) := HB2.out.alloc HB2.out.size _
             generalize w2.alloc (.cells #[.int .i64 o10.kd, .string (bk o10.b), .string (bk o10.id)] 27) = w4 at *
             have HD4 := Lib.hid (HDR.out.below hB4)
             have HC4 := Lib.hid (HCR.out.trans (Chg.of_below (S := fun _ => False) hB4) (fun _ _ h => h.elim))
             have g1 : w4.cell? ⟨kb, ko + j * 2, none⟩ = some (.string (bk d)) := (hB4.cell (p := ⟨kb, ko + j * 2, none⟩) (block_lt f1)).trans f1
             have HHA := Lib.hid (rhas_any w4 A3 l'.length c3 l' d HD4.out.strs rfl (by have := HLB.out; omega))
             clear hB4 f1
             by_cases hm : d ∈ l'
             · have HNX2 : Hid (parG l ((linkIds ks).filter (thereB (gobG (getK R)))) = parG l' ((linkIds (ks.drop (j + 1))).filter (thereB (gobG (getK R))))) := Lib.hid (by rw [HNX.out, if_pos hm])
               rw [decide_eq_true hm] at HHA
               clear hm
               go_wp2_with (go_at_call 28; refine HHA.out.mono ?_; rintro e w8 ⟨rfl, hww⟩; have hww2 := hww.symm; subst hww2)
               go_wp2
               go_roundw
               case rel => exact ⟨j + 1, l', A3, c3, rfl, rfl, hlt, HD4.out, HC4.out, HNX2.out, HND.out.1, HND.out.2.1, HND.out.2.2⟩
               case measure => simp [intOf]; omega
             · have HNX2 : Hid (parG l ((linkIds ks).filter (thereB (gobG (getK R)))) = parG (l' ++ [d]) ((linkIds (ks.drop (j + 1))).filter (thereB (gobG (getK R))))) := Lib.hid (by rw [HNX.out, if_neg hm])
               have HND2 : Hid ((l' ++ [d]).Nodup ∧ (∀ q ∈ l' ++ [d], q ∈ U) ∧ ∀ q ∈ l' ++ [d], ∃ o, getK R q = some o) := Lib.hid ⟨by
                rw [List.nodup_append]
                exact ⟨HND.out.1, by simp, fun p hp q hq => by simp at hq; subst hq; exact fun e => hm (e ▸ hp)⟩, fun q hq => by
                rcases List.mem_append.1 hq with h | h
                · exact HND.out.2.1 q h
                · rw [List.mem_singleton.1 h]; exact HYU.out, fun q hq => by
                rcases List.mem_append.1 hq with h | h
                · exact HND.out.2.2 q h
                · rw [List.mem_singleton.1 h]; exact ⟨o10, HG10.out⟩⟩
               have HOA := Lib.hid (HD4.out.1.alloc (.cells #[.string (bk d)] 9))
               have HBA : Hid (Below w4.heap.size w4 (w4.alloc (.cells #[.string (bk d)] 9))) := Lib.hid ((Below.refl _ _).alloc (Nat.le_refl _) _)
               have HS1 := Lib.hid (Src.one_new (P := Tryz.prog) (w := w4) (u := .string (bk d)) (t := 9) rfl)
               have hm9 : l'.length + 1 ≤ maxLen := by have := HLB.out; unfold maxLen; omega
               have hb9 : (l'.length + 1) * 16 ≤ 140737488355328 := by have := HLB.out; omega
               rw [decide_eq_false hm] at HHA
               clear hm
               go_wp2_with (first | (at_builtin; go_loud (refine wpList_append_S rfl (.tmp 104) (.tmp 110) 32 32 rfl i0 (.string ⟨#[]⟩) 16 (.slice 9) Tryz.underlying32 Tryz.underlying32 (fun _ h => by cases h) hi hz0 hz1 hz2 rfl rfl rfl HOA.out HS1.out hm9 hb9 (Nat.zero_le _) ?_; intro A8 c8 w8; intro ho8 hg8 hw8)) | (go_at_call 28; refine HHA.out.mono ?_; rintro e w8 ⟨rfl, hww⟩; have hww2 := hww.symm; subst hww2))
               have HD8 := Lib.hid ((show DocS _ _ A3 c3 l' from ⟨HOA.out, HD4.out.2⟩).snoc (x := d) ho8 hw8 (by have := HC4.out.size; have := HBA.out.size; exact .inr (by omega)))
               have HC8 := Lib.hid ((HC4.out.trans (Chg.of_below (S := fun _ => False) HBA.out) (fun _ _ h => h.elim)).trans (Chg.of_grown (S := fun k => (w.heap.size ≤ k ∧ k < w7.heap.size) ∨ w9.heap.size ≤ k) hg8 (fun k hk => HD4.out.2 k hk)) (fun _ _ h => h))
               clear ho8 hg8 hw8 hm9 hb9
               go_wp2
               go_roundw
               case rel => exact ⟨j + 1, l' ++ [d], A8, c8, rfl, by simp, hlt, HD8.out, HC8.out, HNX2.out, HND2.out.1, HND2.out.2.1, HND2.out.2.2⟩
               case measure => simp [intOf]; omega
          · have d3 : decide ((j : Int) < (ks.length : Int)) = false := decide_eq_false (by omega)
            have d3' : decide (j < ks.length) = false := decide_eq_false hlt
            have HFI : Hid (RThI R U (parG [] (rs.filter (thereB (gobG (getK R))))) w (i + 1) l' A3 c3 wq) := Lib.hid {
             low := HBW.out
             at' := HDR.out.keep (Chg.refl (fun _ => False) _) (fun _ _ _ h => h) (fun k hk _ => by have := HSZ.out; omega)
             run := fun M h => HI.out.run M (.step HX.out (by rw [HSTEP.out, HLR.out, List.drop_eq_nil_of_le (by omega)]; exact h))
             nd := HND.out.1
             inU := HND.out.2.1
             all := HND.out.2.2 }
            clear hlt
            go_wp2
            go_roundw
            case rel => exact ⟨i + 1, l', A3, c3, rfl, rfl, HFI.out⟩
            case measure => have := HLU.out; have := HLT.out; simp [intOf]; omega
     · have d1 : decide ((i : Int) < (l.length : Int)) = false := decide_eq_false (by omega)
       have d1' : decide (i < l.length) = false := decide_eq_false hlt
       have HRUN := Lib.hid (HI.out.run l (.done (by omega)))
       have HST := Lib.hid HI.out.at'.strs
       clear hlt
       go_wp2
       go_ret
       exact ⟨HI.out.low, l, A2, c2, HRUN.out, by have := HLU.out; omega, rfl, HST.out⟩
end Go.Proofs.YtihanglnjghcfaaGreatDoor
