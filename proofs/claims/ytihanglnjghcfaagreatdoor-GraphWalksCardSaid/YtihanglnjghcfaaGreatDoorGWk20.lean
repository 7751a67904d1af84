/- The document's repository: Add. -/
import Derived.Test.YtihanglnjghcfaaGreatDoorGWk12
import Derived.Test.YtihanglnjghcfaaGreatDoorGWk3
namespace Go.Proofs.YtihanglnjghcfaaGreatDoor
open Go.RowKit Go.Maps
set_option linter.unusedVariables false
set_option linter.unusedSimpArgs false

/-- An object's ID. -/
def idK (k : Int) (b : List UInt8) : Gid := (strOfNums (hexL (shaAll (headL k (bk b).size ++ bytesOf (bk b))))).data.toList
/-- One object more, if its ID is not there. -/
def addK (R : List Kn) (k : Int) (b : List UInt8) : List Kn := if (getK R (idK k b)).isSome then R else R ++ [⟨k, b, idK k b⟩]
def AddK (K : Nat → Prop) (r : Nat) (R : List Kn) (k : Int) (b : List UInt8) (w : World) (e : Ending) (w' : World) : Prop :=
  e = .returned (.string (bk (idK k b))) ∧ RepAt w' K r (addK R k b) ∧ Chg K w w'
theorem Src.kn {P : Program} (w : World) (x : Kn) (t : TypeId) : Src P (w.alloc (.cells #[.int .i64 x.kd, .string (bk x.b), .string (bk x.id)] t)) 3 (.slice (some ⟨w.heap.size, 0, none⟩) 1 1) 1 (knV x) :=
  Src.vals rfl (by intro u hu; simp [knV] at hu; rcases hu with rfl | rfl | rfl <;> rfl) (fun _ => ⟨_, rfl, World.news_of_block (heap_alloc_new w _)⟩)
set_option maxRecDepth 100000 in
set_option maxHeartbeats 4000000 in
theorem radd_any (K : Nat → Prop) (r : Nat) (R : List Kn) (k : Int) (b : List UInt8) (w : World) (h : RepAt w K r R) (hK : ∀ k, w.heap.size ≤ k → K k) (hl : R.length ≤ 1048576) (hb : b.length ≤ 140737488351232) :
    Calls Tryz.prog 12 #[.pointer (some ⟨r, 0, none⟩), .int .i64 k, .string (bk b)] w (AddK K r R k b w) := by
  obtain ⟨i0, hi, hz0, hz1, hz2⟩ := info_parts info_kn
  have HID := Lib.hid (ridB_any k (bk b) w (by rw [bk_size]; exact hb))
  have hidv : strOfNums (hexL (shaAll (headL k (bk b).size ++ bytesOf (bk b)))) = bk (idK k b) := by unfold idK; rw [bk_of]
  rw [hidv] at HID
  have HR := Lib.hid h
  have HK := Lib.hid hK
  have HL := Lib.hid hl
  generalize hidk : idK k b = d at *
  have HDK := Lib.hid hidk
  clear h hK hl hb hidv hidk
  go_enter Tryz.func12, Tryz.ntmps12
  go_wp2_with fail
  refine HID.out.mono ?_
  rintro e w1 ⟨rfl, hb1⟩
  have HR1 := Lib.hid (HR.out.below hb1)
  have HB1 := Lib.hid hb1
  have HGT := Lib.hid (rget_any w1 K r R d HR1.out (by have := HL.out; omega))
  clear hb1
  go_wp2_with fail
  refine HGT.out.mono ?_
  rintro e w2 ⟨rfl, hb2⟩
  have HR2 := Lib.hid (HR1.out.below hb2)
  have HB2 := Lib.hid (HB1.out.trans (hb2.mono HB1.out.size))
  clear hb2
  cases hgk : getK R d with
  | none =>
    have HRES : Hid (addK R k b = R ++ [⟨k, b, d⟩]) := Lib.hid (by unfold addK; rw [HDK.out, hgk]; rfl)
    clear hgk
    unfold getV zeroK
    go_upto_region 3 with (fail)
    have HB3 : Hid (Below w.heap.size w (w2.alloc (.cells #[.int .i64 0, .string ⟨#[]⟩, .string ⟨#[]⟩] 27))) := Lib.hid (HB2.out.trans (((Below.refl _ _).alloc (Nat.le_refl _) _).mono HB2.out.size))
    have HR3 : Hid (RepAt (w2.alloc (.cells #[.int .i64 0, .string ⟨#[]⟩, .string ⟨#[]⟩] 27)) K r R) := Lib.hid (HR2.out.below ((Below.refl _ _).alloc (Nat.le_refl _) _))
    generalize w2.alloc (.cells #[.int .i64 0, .string ⟨#[]⟩, .string ⟨#[]⟩] 27) = w3 at *
    obtain ⟨hKr, A, c, vR, vH, vT, hce, how, hoK⟩ := HR3.out
    have hnr : Value.ownBlock (.slice A R.length c) ≠ some r := how.ne_cel hce (by decide)
    have k0 : w3.cell? ⟨r, 0, none⟩ = some (.slice A R.length c) := hce.cell 0 (by decide)
    have HCE := Lib.hid hce
    have HKR := Lib.hid (And.intro hKr (And.intro hoK hnr))
    have HSRC := Lib.hid (Src.kn (P := Tryz.prog) w3 ⟨k, b, d⟩ 27)
    have HOA := Lib.hid (how.alloc (.cells #[.int .i64 k, .string (bk b), .string (bk d)] 27))
    have hm9 : R.length + 1 ≤ maxLen := by have := HL.out; unfold maxLen; omega
    have hb9 : (R.length + 1) * 40 ≤ 140737488355328 := by have := HL.out; omega
    clear hce how hoK hKr hnr
    cases vT
    all_goals
      go_wp2_with (at_builtin; go_loud (refine wpList_append_S rfl (.tmp 25) (.tmp 30) 23 23 rfl i0 (.agg #[.int .i64 0, .string ⟨#[]⟩, .string ⟨#[]⟩]) 40 (.slice 27) Tryz.underlying23 Tryz.underlying23 (fun _ h => by cases h) hi hz0 hz1 hz2 rfl rfl rfl HOA.out HSRC.out hm9 hb9 (Nat.zero_le _) ?_; intro A8 c8 w8; generalize hnn : R.length + 1 = nn at *; intro ho8 hg8 hw8; have HCE8 := Lib.hid ((HCE.out.alloc (.cells #[.int .i64 k, .string (bk b), .string (bk d)] 27)).grown hg8 HKR.out.2.2); have q8 := HCE8.out.cell 0 (by decide); have z8 := HCE8.out.frozen 0; have q9 := (HCE8.out.set 0 (.slice A8 nn c8)).cell 3 (by decide); have z9 := (HCE8.out.set 0 (.slice A8 nn c8)).frozen 3; have HO8 := Lib.hid ho8; have HG8 := Lib.hid hg8; have HH8 := Lib.hid hw8; have HNN := Lib.hid hnn; clear ho8 hg8 hw8 hnn; simp only [repF] at q9))
      have HEND : ∀ vb : Bool, AddK K r R k b w (.returned (.string (bk d))) ((w8.setCell ⟨r, 0, none⟩ (.slice A8 nn c8)).setCell ⟨r, 3, none⟩ (.bool vb)) := fun vb => by
        unfold AddK
        rw [HRES.out, HDK.out]
        have hne8 : Value.ownBlock (.slice A8 nn c8) ≠ some r := HO8.out.ne_cel HCE8.out (by decide)
        have e1 : (R ++ [(⟨k, b, d⟩ : Kn)]).length = nn := by rw [List.length_append]; exact HNN.out
        refine ⟨rfl, ⟨HKR.out.1, A8, c8, vR, vH, vb, ((HCE8.out.set 0 (.slice A8 nn c8)).set 3 _).congr (fun j hj => ?_), ?_, ?_⟩, ?_⟩
        · rw [e1]
          have : j = 0 ∨ j = 1 ∨ j = 2 ∨ j = 3 := by omega
          rcases this with rfl | rfl | rfl | rfl <;> rfl
        · rw [e1, List.flatMap_append]
          exact (HO8.out.setFar hne8 _).setFar hne8 _
        · rw [e1]
          intro q hq
          rcases HH8.out with h | h
          · exact HKR.out.2.1 q (h.symm.trans hq)
          · have : q = (w3.alloc (.cells #[.int .i64 k, .string (bk b), .string (bk d)] 27)).heap.size := by injection (hq.symm.trans h)
            refine HK.out q ?_
            have h2 := HB3.out.size
            rw [this]
            simp
            omega
        · refine Chg.setCell (Chg.setCell ?_ (.inl HKR.out.1) _) (.inl HKR.out.1) _
          exact ((Chg.of_below (S := K) HB3.out).alloc _).trans (Chg.of_grown (S := K) HG8.out fun q hq => HKR.out.2.1 q hq) (fun _ _ h => h)
      go_ret
      exact HEND _
  | some x =>
    have HRES : Hid (addK R k b = R) := Lib.hid (by unfold addK; rw [HDK.out, hgk]; rfl)
    clear hgk
    unfold getV knA
    go_upto_region 3 with (fail)
    have HB3 : Hid (Below w.heap.size w (w2.alloc (.cells #[.int .i64 x.kd, .string (bk x.b), .string (bk x.id)] 27))) := Lib.hid (HB2.out.trans (((Below.refl _ _).alloc (Nat.le_refl _) _).mono HB2.out.size))
    have HR3 : Hid (RepAt (w2.alloc (.cells #[.int .i64 x.kd, .string (bk x.b), .string (bk x.id)] 27)) K r R) := Lib.hid (HR2.out.below ((Below.refl _ _).alloc (Nat.le_refl _) _))
    have f0 : (w2.alloc (.cells #[.int .i64 x.kd, .string (bk x.b), .string (bk x.id)] 27)).cell? ⟨w2.heap.size, 0, none⟩ = some (.int .i64 x.kd) := by rw [World.cell?_alloc_at _ _ _ _ (by simp)]; rfl
    have f1 : (w2.alloc (.cells #[.int .i64 x.kd, .string (bk x.b), .string (bk x.id)] 27)).cell? ⟨w2.heap.size, 1, none⟩ = some (.string (bk x.b)) := by rw [World.cell?_alloc_at _ _ _ _ (by simp)]; rfl
    generalize w2.alloc (.cells #[.int .i64 x.kd, .string (bk x.b), .string (bk x.id)] 27) = w3 at *
    generalize w2.heap.size = g2 at *
    obtain ⟨hKr, A, c, vR, vH, vT, hce, how, hoK⟩ := HR3.out
    have hnr : Value.ownBlock (.slice A R.length c) ≠ some r := how.ne_cel hce (by decide)
    have k3 : w3.cell? ⟨r, 3, none⟩ = some (.bool vT) := hce.cell 3 (by decide)
    have z3 := hce.frozen 3
    have HEND : Hid (∀ vb : Bool, AddK K r R k b w (.returned (.string (bk d))) (w3.setCell ⟨r, 3, none⟩ (.bool vb))) := Lib.hid (fun vb => by
      unfold AddK
      rw [HRES.out, HDK.out]
      refine ⟨rfl, ⟨hKr, A, c, vR, vH, vb, (hce.set 3 _).congr (fun j hj => ?_), how.setFar hnr _, hoK⟩, (Chg.of_below (S := K) HB3.out).setCell (.inl hKr) _⟩
      have : j = 0 ∨ j = 1 ∨ j = 2 ∨ j = 3 := by omega
      rcases this with rfl | rfl | rfl | rfl <;> rfl)
    clear hce how hoK hKr hnr
    cases vT with
    | true =>
      go_wp2
      go_ret
      exact HEND.out true
    | false =>
      by_cases hk1 : x.kd = k
      · have d1 : (x.kd == k) = true := by rw [beq_iff_eq]; exact hk1
        by_cases hb1 : x.b = b
        · have d2 : ((bk x.b).toList == (bk b).toList) = true := by rw [hb1]; simp
          clear hb1
          go_wp2
          go_ret
          exact HEND.out false
        · have d2 : ((bk x.b).toList == (bk b).toList) = false := by rw [Lib.toList_data, Lib.toList_data, bk_list, bk_list, beq_eq_false_iff_ne]; exact hb1
          clear hb1
          go_wp2
          go_ret
          exact HEND.out true
      · have d1 : (x.kd == k) = false := by rw [beq_eq_false_iff_ne]; exact hk1
        go_wp2
        go_ret
        exact HEND.out true
end Go.Proofs.YtihanglnjghcfaaGreatDoor
namespace Go.Proofs.YtihanglnjghcfaaGreatDoor
open Go.RowKit Go.Maps
set_option linter.unusedVariables false
set_option linter.unusedSimpArgs false

def kindL (R : List Kn) (k : Int) : List Gid := (R.filter fun x => x.kd == k).map (·.id)
def pickK (R : List Kn) (k : Int) (n : Nat) : Gid := if (kindL R k).length = 0 then [] else (kindL R k).getD (n % (kindL R k).length) []
theorem pickK_of (R : List Kn) (k : Int) (n : Nat) : pickK R k n = [] ∨ ∃ x ∈ R, x.kd = k ∧ x.id = pickK R k n := by
  unfold pickK
  by_cases h : (kindL R k).length = 0
  · rw [if_pos h]; exact .inl rfl
  · rw [if_neg h]
    have hlt : n % (kindL R k).length < (kindL R k).length := Nat.mod_lt _ (by omega)
    have hm : (kindL R k).getD (n % (kindL R k).length) [] ∈ kindL R k := by
      rw [List.getD_eq_getElem?_getD, List.getElem?_eq_getElem hlt]
      exact List.getElem_mem hlt
    generalize (kindL R k).getD (n % (kindL R k).length) [] = d at *
    unfold kindL at hm
    obtain ⟨x, hx, he⟩ := List.mem_map.1 hm
    have h2 := List.mem_filter.1 hx
    exact .inr ⟨x, h2.1, by simpa using h2.2, he⟩
theorem kindL_take {R : List Kn} {k : Int} {i : Nat} {x : Kn} (h : R[i]? = some x) : kindL (R.take (i + 1)) k = kindL (R.take i) k ++ (if x.kd = k then [x.id] else []) := by
  unfold kindL
  rw [List.take_add_one, h, List.filter_append, List.map_append]
  congr 1
  by_cases e : x.kd = k
  · rw [if_pos e]; simp [e]
  · rw [if_neg e]; simp [e]
theorem kindL_len (R : List Kn) (k : Int) : (kindL R k).length ≤ R.length := by unfold kindL; rw [List.length_map]; exact List.length_filter_le _ _
set_option maxRecDepth 100000 in
set_option maxHeartbeats 2000000 in
theorem pick_any (K : Nat → Prop) (r : Nat) (R : List Kn) (k : Int) (n : Nat) (w : World) (h : RepAt w K r R) (hl : R.length ≤ 1048576) (hn : n ≤ 1048576) :
    Calls Tryz.prog 52 #[.pointer (some ⟨r, 0, none⟩), .int .i64 k, .int .i64 (n : Int)] w fun e w' => e = .returned (.string (bk (pickK R k n))) ∧ Below w.heap.size w w' := by
  obtain ⟨i0, hi, hz0, hz1, hz2⟩ := info_parts info_str1
  obtain ⟨_, A, c, _, _, _, hce, how, _⟩ := h
  have hG : Hid (∀ (i : Nat) (x : Kn), R[i]? = some x → ∃ b o, A = some ⟨b, o, none⟩ ∧ b < w.heap.size ∧ w.cell? ⟨b, o + i * 3, none⟩ = some (.int .i64 x.kd) ∧ w.cell? ⟨b, o + i * 3 + 2, none⟩ = some (.string (bk x.id))) := Lib.hid (fun i x hx => by
    obtain ⟨b, o, h1, _, h2, h3⟩ := OwnS.flat knV_len (by decide) how hx
    exact ⟨b, o, h1, h2, h3 0 (by decide), h3 2 (by decide)⟩)
  have HCE := Lib.hid hce
  have HL := Lib.hid (And.intro hl hn)
  clear hce how hl hn
  go_enter Tryz.func52, Tryz.ntmps52
  go_wp2
  go_loopw [7, 8] (fun v7 v8 wr => ∃ (i m : Nat) (A7 : Option Addr) (c7 : Nat), v8 = .int .i64 i ∧ v7 = .slice A7 m c7 ∧ m = (kindL (R.take i) k).length ∧ i ≤ R.length ∧ OwnS wr w.heap.size 9 1 (.slice A7 m c7) m (strVs (kindL (R.take i) k)) ∧ Below w.heap.size w wr) (fun _ v8 _ => R.length - (intOf v8).toNat)
  case atStart => exact ⟨0, 0, none, 0, rfl, rfl, rfl, by omega, OwnS.nil _ _ _ _, Below.refl _ _⟩
  case round =>
    obtain ⟨i, m, A7, c7, rfl, rfl, hm, hil, ho, hb⟩ := hrel
    have HO := Lib.hid ho
    have HB := Lib.hid hb
    have HM := Lib.hid hm
    have k0 : wr.cell? ⟨r, 0, none⟩ = some (.slice A R.length c) := (HCE.out.below hb HCE.out.blk).cell 0 (by decide)
    clear ho hb hm
    by_cases hlt : i < R.length
    · have d1 : decide ((i : Int) < (R.length : Int)) = true := decide_eq_true (by omega)
      have d1' : decide (i < R.length) = true := decide_eq_true hlt
      obtain ⟨b, o, hA, hbl, hc0, hc2⟩ := hG.out i R[i] (List.getElem?_eq_getElem hlt)
      subst hA
      have HTK := Lib.hid (kindL_take (k := k) (List.getElem?_eq_getElem hlt))
      generalize hx : R[i] = x at *
      have f0 := (HB.out.cell (p := ⟨b, o + i * 3, none⟩) hbl).trans hc0
      have f2 := (HB.out.cell (p := ⟨b, o + i * 3 + 2, none⟩) hbl).trans hc2
      have hle : ¬ (R.length : Int) ≤ i := by omega
      have hn0 : (0 : Int) ≤ i := by omega
      have hnl : (i : Int) < R.length := by omega
      have hw1 : IntKind.i64.wrap ((i : Int) + 1) = (i : Int) + 1 := IntWalk.i64_in _ (by have := HL.out.1; omega)
      clear hc0 hc2 hbl hx
      by_cases hk : x.kd = k
      · have d2 : (x.kd == k) = true := by rw [beq_iff_eq]; exact hk
        have HTK2 : Hid (kindL (R.take (i + 1)) k = kindL (R.take i) k ++ [x.id]) := Lib.hid (by rw [HTK.out, if_pos hk])
        have HS := Lib.hid (Src.one_new (P := Tryz.prog) (w := wr) (u := .string (bk x.id)) (t := 9) rfl)
        have HOA := Lib.hid (HO.out.alloc (.cells #[.string (bk x.id)] 9))
        have HBA : Hid (Below w.heap.size w (wr.alloc (.cells #[.string (bk x.id)] 9))) := Lib.hid (HB.out.trans (((Below.refl _ _).alloc (Nat.le_refl _) _).mono HB.out.size))
        have hmm : m ≤ 1048576 := by have h1 := kindL_len (R.take i) k; have h2 := HM.out; have h3 := HL.out.1; simp only [List.length_take] at h1; omega
        have hm9 : m + 1 ≤ maxLen := by unfold maxLen; omega
        have hb9 : (m + 1) * 16 ≤ 140737488355328 := by omega
        clear hk hmm
        go_wp2_with (at_builtin; go_loud (refine wpList_append_S rfl (.tmp 28) (.tmp 37) 32 32 rfl i0 (.string ⟨#[]⟩) 16 (.slice 9) Tryz.underlying32 Tryz.underlying32 (fun _ h => by cases h) hi hz0 hz1 hz2 rfl rfl rfl HOA.out HS.out hm9 hb9 HBA.out.size ?_; intro A8 c8 w8; generalize hnn : m + 1 = nn at *; intro ho8 hg8 hw8; have HO8 := Lib.hid ho8; have HB8 := Lib.hid (HBA.out.grown hg8 HBA.out.size (fun j hj => (HOA.out.lt j hj).1)); have HNN := Lib.hid hnn; clear ho8 hg8 hw8 hnn))
        go_roundw
        case rel => exact ⟨i + 1, nn, A8, c8, rfl, rfl, by rw [HTK2.out, List.length_append, ← HM.out, ← HNN.out]; rfl, by omega, by rw [HTK2.out]; unfold strVs; rw [List.map_append]; exact HO8.out, HB8.out⟩
        case measure => simp [intOf]; omega
      · have d2 : (x.kd == k) = false := by rw [beq_eq_false_iff_ne]; exact hk
        have HTK2 : Hid (kindL (R.take (i + 1)) k = kindL (R.take i) k) := Lib.hid (by rw [HTK.out, if_neg hk, List.append_nil])
        clear hk
        go_wp2
        go_roundw
        case rel => exact ⟨i + 1, m, A7, c7, rfl, rfl, by rw [HTK2.out]; exact HM.out, by omega, by rw [HTK2.out]; exact HO.out, HB.out⟩
        case measure => simp [intOf]; omega
    · have d1 : decide ((i : Int) < (R.length : Int)) = false := decide_eq_false (by omega)
      have d1' : decide (i < R.length) = false := decide_eq_false hlt
      have HTA : Hid (R.take i = R) := Lib.hid (List.take_of_length_le (by omega))
      rw [HTA.out] at HM HO
      by_cases hz : m = 0
      · have d3 : ((m : Int) == 0) = true := by rw [beq_iff_eq]; omega
        have HRES : Hid (pickK R k n = []) := Lib.hid (by unfold pickK; rw [if_pos (by rw [← HM.out]; exact hz)])
        subst hz
        go_wp2
        go_ret
        exact ⟨by rw [HRES.out]; rfl, HB.out⟩
      · have d3 : ((m : Int) == 0) = false := by rw [beq_eq_false_iff_ne]; omega
        have d3' : ¬ (m : Int) = 0 := by omega
        have d3'' : ¬ m = 0 := hz
        have hq : n % m < m := Nat.mod_lt _ (by omega)
        obtain ⟨g, off, c', hv, _, _, hcl⟩ := HO.out.cells (by simp [strVs]; rw [← HM.out]; omega)
        injection hv with hA _ _
        have hc0 := hcl (n % m) (by simp [strVs]; rw [← HM.out]; exact hq)
        have HRES : Hid (wr.cell? ⟨g, off + n % m, none⟩ = some (.string (bk (pickK R k n)))) := Lib.hid (by
          rw [hc0]
          unfold strVs pickK
          rw [List.getElem?_map, if_neg (by rw [← HM.out]; exact hz), ← HM.out, List.getD_eq_getElem?_getD, List.getElem?_eq_getElem (by rw [← HM.out]; exact hq)]
          rfl)
        subst hA
        have f0 := HRES.out
        have ht : ((n : Int).tmod (m : Int)) = ((n % m : Nat) : Int) := by rw [Int.tmod_eq_emod_of_nonneg (by omega)]; rfl
        generalize n % m = q at *
        have hle : ¬ (m : Int) ≤ q := by omega
        have hn0 : (0 : Int) ≤ q := by omega
        have hnl : (q : Int) < m := by omega
        have hw : IntKind.i64.wrap (q : Int) = q := IntWalk.i64_in _ (by have h1 := HM.out; have h2 := kindL_len R k; have := HL.out.1; omega)
        clear hcl hc0 hq
        go_wp2
        go_ret
        exact ⟨rfl, HB.out⟩
end Go.Proofs.YtihanglnjghcfaaGreatDoor
namespace Go.Proofs.YtihanglnjghcfaaGreatDoor
open Go.RowKit
set_option linter.unusedVariables false
set_option linter.unusedSimpArgs false

set_option maxRecDepth 100000 in
theorem rawR_any (s : ByteArray) (w : World) (hsz : s.size ≤ 140737488355328) : Calls Tryz.prog 54 #[.string s] w fun e w' => e = .returned (.string (strOfNums (rawL s))) ∧ Below w.heap.size w w' := by
  have HA := Lib.hid (hashR_any s w hsz)
  have HU := Lib.hid (fun w => unhexR_any s w hsz)
  have HZ := Lib.hid (fun w => unhexR_any zeroS w (by decide))
  have HR : Hid (rawL s = if hashB (bytesOf s) then unV (bytesOf s) else List.replicate 20 0) := rfl
  unfold UnPost at HU HZ
  rw [zero_un] at HZ
  generalize List.replicate 20 (0 : Int) = Z20 at *
  have hcv := fun (W : World) (A : Option Addr) (c : Nat) (xs : List Int) (h : Ints .u8 W A xs) => run_str_ints (P := Tryz.prog) (w := W) 48 9 5 Tryz.underlying48 Tryz.underlying5 Tryz.underlying9 A c xs h
  have HCV := Lib.hid hcv
  clear hcv
  generalize unV (bytesOf s) = V at *
  generalize unOk (bytesOf s) = ok1 at *
  generalize unOk (bytesOf zeroS) = ok2 at *
  generalize hashB (bytesOf s) = hh at *
  go_enter Tryz.func54, Tryz.ntmps54
  go_wp2_with fail
  refine HA.out.mono ?_
  rintro e w1 ⟨rfl, hb⟩
  have HB := Lib.hid hb
  clear hb HA
  cases hh
  · rw [if_neg (by decide)] at HR
    go_wp2_with (first | (go_at_call 69; refine (zeroR_any _).mono ?_; rintro e w2 ⟨rfl, rfl⟩) | (go_at_call 77; refine (HZ.out _).mono ?_; rintro e w2 ⟨A, c, rfl, hI, hb2⟩; have hcv2 := HCV.out _ _ c _ hI; have HB2 := Lib.hid hb2; clear hb2 hI))
    go_ret
    exact ⟨by rw [HR.out]; rfl, HB.out.trans (HB2.out.mono HB.out.size)⟩
  · rw [if_pos rfl] at HR
    go_wp2_with (go_at_call 77; refine (HU.out _).mono ?_; rintro e w2 ⟨A, c, rfl, hI, hb2⟩; have hcv2 := HCV.out _ _ c _ hI; have HB2 := Lib.hid hb2; clear hb2 hI)
    go_ret
    exact ⟨by rw [HR.out]; rfl, HB.out.trans (HB2.out.mono HB.out.size)⟩

end Go.Proofs.YtihanglnjghcfaaGreatDoor
