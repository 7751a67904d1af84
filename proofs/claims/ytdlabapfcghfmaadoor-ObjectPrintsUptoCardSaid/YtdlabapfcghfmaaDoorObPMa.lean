/- What printing an object needs: Clip, Clone, a string made into bytes of one's own, an ID's twenty bytes (the program's and the document's). -/
import Derived.Test.YtdlabapfcghfmaaDoorObZ
import Derived.Test.YtdlabapfcghfmaaDoorObH
import Derived.Test.YtdlabapfcghfmaaDoorCnv
import Derived.Test.YtdlabapfcghfmaaDoorPh
import Derived.Test.YtdlabapfcghfmaaDoorShelfB
namespace Go.Proofs.YtdlabapfcghfmaaDoor
open Go.RowKit
set_option linter.unusedVariables false
set_option linter.unusedSimpArgs false

theorem OwnS.clip {w : World} {base : Nat} {e : TypeId} {A : Option Addr} {n c : Nat} {xs : List Value} (h : OwnS w base e 1 (.slice A n c) n xs) : OwnS w base e 1 (.slice A n n) n xs := by
  refine ⟨h.1, ?_⟩
  rcases h.2 with ⟨hv, rfl⟩ | ⟨g, off, cap, cur, hv, hb, hg, hn, hm, hs, ht⟩
  · injection hv with hA _ hc
    subst hA
    exact .inl ⟨rfl, rfl⟩
  · injection hv with hA _ hc
    subst hA; subst hc
    exact .inr ⟨g, off, n, cur, rfl, hb, hg, Nat.le_refl _, by omega, by omega, ht⟩
set_option maxRecDepth 100000 in
theorem clip_any (A : Option Addr) (n c : Nat) (w : World) (hn : n ≤ c) (hc : c ≤ 9223372036854775807) :
    Calls Tryd.prog 116 #[.slice A n c] w fun e w' => e = .returned (.slice A n n) ∧ w = w' := by
  have h0 : (n : Int) ≤ c := by omega
  go_enter Tryd.func116, Tryd.ntmps116
  go_wp2
  go_ret
  exact ⟨rfl, rfl⟩
set_option maxRecDepth 100000 in
theorem clone_any (A : Option Addr) (n c : Nat) (xs : List Int) (w : World) (hI : Ints .u8 w A xs) (hn : xs.length = n) (hsz : n ≤ 140737488355000) (hA : A = none → n = 0) :
    Calls Tryd.prog 130 #[.slice A n c] w fun e w' => ∃ A' c', e = .returned (.slice A' n c') ∧ OwnS w' w.heap.size 5 1 (.slice A' n c') n (xs.map (Value.int .u8)) ∧ Below w.heap.size w w' := by
  subst hn
  obtain ⟨i0, hi, hz0, hz1, hz2⟩ := info_parts Tryd.info_u8
  have he := fun (W : World) (a : Option Addr) => Lib.run_eql_slice_nil (P := Tryd.prog) W 30 5 a xs.length c 0 0 Tryd.underlying30
  cases A with
  | none =>
    have h0 := hA rfl
    have hx : xs = [] := List.eq_nil_of_length_eq_zero h0
    subst hx
    have he0 := fun (W : World) => Lib.run_eql_slice_nil (P := Tryd.prog) W 30 5 none 0 c 0 0 Tryd.underlying30
    clear he
    show Calls Tryd.prog 130 #[.slice none 0 c] w _
    go_enter Tryd.func130, Tryd.ntmps130
    go_wp2
    go_ret
    exact ⟨none, 0, rfl, OwnS.nil _ _ _ _, Below.refl _ _⟩
  | some a =>
    go_enter Tryd.func130, Tryd.ntmps130
    go_wp2_with (at_builtin; go_loud (refine wpList_append_S rfl (.tmp 5) (.tmp 6) 30 30 rfl i0 (.int .u8 0) 1 (.slice 5) Tryd.underlying30 Tryd.underlying30 (fun _ h => by cases h) hi hz0 hz1 hz2 rfl rfl rfl (OwnS.empty (base := w.heap.size) (c := 0) (Nat.le_refl _) (heap_alloc_new w _) (by decide) (by simp)) (Src.ints (hI.below ((Below.refl _ _).alloc (Nat.le_refl _) _))) ?_ ?_ ?_ ?_; (unfold maxLen; omega); omega; (simp); intro A5 c5 w5 ho5 hg5 hw5))
    rw [Nat.zero_add, List.nil_append] at ho5
    go_ret
    exact ⟨A5, c5, rfl, ho5, ((Below.refl _ _).alloc (Nat.le_refl _) _).grown hg5 (by simp) (fun k h => by injection h with h; exact Nat.le_of_eq h)⟩

theorem OwnS.capm {w : World} {base : Nat} {e : TypeId} {size n c : Nat} {A : Option Addr} {xs : List Value} (h : OwnS w base e size (.slice A n c) n xs) : c ≤ 9223372036854775807 := by
  rcases h.2 with ⟨hv, rfl⟩ | ⟨g', off, cap, cur, hv, _, _, hn, hm, _⟩
  · injection hv with _ _ hc; omega
  · injection hv with _ _ hc
    unfold maxLen at hm
    omega
/-- Twenty bytes of an ID; noughts if it is none. -/
def rawL (s : ByteArray) : List Int := if hashB (bytesOf s) then unV (bytesOf s) else List.replicate 20 0
theorem rawL_len (s : ByteArray) : (rawL s).length = 20 := by
  unfold rawL
  split
  · next h => unfold hashB at h; simp at h; exact h.2
  · simp
theorem rawL_ok (s : ByteArray) : Bytes (rawL s) := by
  unfold rawL
  split
  · exact unV_ok _
  · intro x hx; rw [List.eq_of_mem_replicate hx]; decide
theorem make20 (w : World) : (Instr.makeSlice 30 (.int .i64 20) (.int .i64 20)).run Tryd.prog w = .ok (.slice (some ⟨w.heap.size, 0, none⟩) 20 20) (w.alloc (.cells (madeCells #[.int .u8 0] 20) 5)) := by
  obtain ⟨i0, hi, hz0, hz1, hz2⟩ := info_parts Tryd.info_u8
  have hr := run_make (P := Tryd.prog) w 30 5 i0 (.int .u8 0) Tryd.underlying30 hi hz0 .i64 .i64 20 20 (by decide) (by decide) (by rw [hz2]; decide) (by decide)
  rw [hz1] at hr
  exact hr
theorem zeros20 : (madeCells #[.int .u8 0] 20).toList = (List.replicate 20 (0 : Int)).map (Value.int .u8) := by kernel_rfl
set_option maxRecDepth 100000 in
theorem raw_any (s : ByteArray) (w : World) (hsz : s.size ≤ 140737488355328) : Calls Tryd.prog 115 #[.string s] w fun e w' => ∃ A c, e = .returned (.slice A 20 c) ∧ Ints .u8 w' A (rawL s) ∧ Below w.heap.size w w' := by
  have HU := Lib.hid (unhex_any s w hsz)
  have hmk := make20
  have HR : Hid (rawL s = if hashB (bytesOf s) then unV (bytesOf s) else List.replicate 20 0) := rfl
  have HH : Hid (hashB (bytesOf s) = (unOk (bytesOf s) && decide ((unV (bytesOf s)).length = 20))) := rfl
  go_enter Tryd.func115, Tryd.ntmps115
  go_wp2_with fail
  refine HU.out.mono ?_
  rintro e w1 ⟨A, c, rfl, hI, hb⟩
  have HB := Lib.hid hb
  have HI := Lib.hid hI
  generalize unV (bytesOf s) = V at *
  clear hI hb HU
  generalize hashB (bytesOf s) = hh at *
  cases ho : unOk (bytesOf s)
  · rw [ho] at HH
    clear ho
    go_wp2
    go_ret
    refine ⟨_, _, rfl, ?_, HB.out.alloc HB.out.size _⟩
    rw [HR.out, if_neg (by rw [HH.out]; simp)]
    exact Ints.of_new (heap_alloc_new _ _) zeros20
  · rw [ho] at HH
    clear ho
    by_cases h : V.length = 20
    · have d1 : ((V.length : Int) != 20) = false := by rw [bne_eq_false_iff_eq]; omega
      rw [decide_eq_true h] at HH
      have HV := Lib.hid h
      clear h
      go_wp2
      go_ret
      refine ⟨A, c, (show Ending.returned (.slice A V.length c) = _ by rw [HV.out]), ?_, HB.out⟩
      rw [HR.out, if_pos (by rw [HH.out]; rfl)]
      exact HI.out
    · have d1 : ((V.length : Int) != 20) = true := by rw [bne_iff_ne]; omega
      rw [decide_eq_false h] at HH
      clear h
      go_wp2
      go_ret
      refine ⟨_, _, rfl, ?_, HB.out.alloc HB.out.size _⟩
      rw [HR.out, if_neg (by rw [HH.out]; simp)]
      exact Ints.of_new (heap_alloc_new _ _) zeros20
def zeroS : ByteArray := ⟨#[48, 48, 48, 48, 48, 48, 48, 48, 48, 48, 48, 48, 48, 48, 48, 48, 48, 48, 48, 48, 48, 48, 48, 48, 48, 48, 48, 48, 48, 48, 48, 48, 48, 48, 48, 48, 48, 48, 48, 48]⟩
theorem zero_un : unV (bytesOf zeroS) = List.replicate 20 0 := by kernel_rfl
theorem zeroR_any (w : World) : Calls Tryd.prog 62 #[] w fun e w' => e = .returned (.string zeroS) ∧ w = w' := by
  go_enter Tryd.func62, Tryd.ntmps62
  go_wp2
  go_ret
  exact ⟨rfl, rfl⟩
set_option maxRecDepth 100000 in
theorem rawR_any (s : ByteArray) (w : World) (hsz : s.size ≤ 140737488355328) : Calls Tryd.prog 42 #[.string s] w fun e w' => e = .returned (.string (strOfNums (rawL s))) ∧ Below w.heap.size w w' := by
  have HA := Lib.hid (hashR_any s w hsz)
  have HU := Lib.hid (fun w => unhexR_any s w hsz)
  have HZ := Lib.hid (fun w => unhexR_any zeroS w (by decide))
  have HR : Hid (rawL s = if hashB (bytesOf s) then unV (bytesOf s) else List.replicate 20 0) := rfl
  unfold UnPost at HU HZ
  rw [zero_un] at HZ
  generalize List.replicate 20 (0 : Int) = Z20 at *
  have hcv := fun (W : World) (A : Option Addr) (c : Nat) (xs : List Int) (h : Ints .u8 W A xs) => run_str_ints (P := Tryd.prog) (w := W) 30 9 5 Tryd.underlying30 Tryd.underlying5 Tryd.underlying9 A c xs h
  have HCV := Lib.hid hcv
  clear hcv
  generalize unV (bytesOf s) = V at *
  generalize unOk (bytesOf s) = ok1 at *
  generalize unOk (bytesOf zeroS) = ok2 at *
  generalize hashB (bytesOf s) = hh at *
  go_enter Tryd.func42, Tryd.ntmps42
  go_wp2_with fail
  refine HA.out.mono ?_
  rintro e w1 ⟨rfl, hb⟩
  have HB := Lib.hid hb
  clear hb HA
  cases hh
  · rw [if_neg (by decide)] at HR
    go_wp2_with (first | (go_at_call 62; refine (zeroR_any _).mono ?_; rintro e w2 ⟨rfl, rfl⟩) | (go_at_call 35; refine (HZ.out _).mono ?_; rintro e w2 ⟨A, c, rfl, hI, hb2⟩; have hcv2 := HCV.out _ _ c _ hI; have HB2 := Lib.hid hb2; clear hb2 hI))
    go_ret
    exact ⟨by rw [HR.out]; rfl, HB.out.trans (HB2.out.mono HB.out.size)⟩
  · rw [if_pos rfl] at HR
    go_wp2_with (go_at_call 35; refine (HU.out _).mono ?_; rintro e w2 ⟨A, c, rfl, hI, hb2⟩; have hcv2 := HCV.out _ _ c _ hI; have HB2 := Lib.hid hb2; clear hb2 hI)
    go_ret
    exact ⟨by rw [HR.out]; rfl, HB.out.trans (HB2.out.mono HB.out.size)⟩

/-- A string made into bytes of one's own. -/
theorem run_convO (w : World) (s : ByteArray) (hsz : s.size ≤ 140737488351300) : ∃ A cap w', (convert 9 30 (.string s)).run Tryd.prog w = .ok (.slice A s.size cap) w' ∧ OwnS w' w.heap.size 5 1 (.slice A s.size cap) s.size ((bytesOf s).map (Value.int .u8)) ∧ s.size ≤ cap ∧ cap ≤ 9223372036854775807 ∧ Below w.heap.size w w' := by
  have hge := grownCap_ge w s.size 0 5
  have hcm : grownCap w s.size 0 5 ≤ maxLen := grownCap_le_maxLen w s.size 0 5 (by unfold maxLen; omega)
  have ho := OwnS.of_str w.drew s 5 _ hge hcm
  refine ⟨_, _, _, run_bytes_of_string (P := Tryd.prog) w 9 30 5 s Tryd.underlying9 Tryd.underlying30 Tryd.underlying5, ho, hge, by unfold maxLen at hcm; omega, ((Below.refl _ _).drew).alloc (by simp) _⟩
theorem wpList_convO {ops : Array Oper} {rest : List Oper} {o : Oper} {a : Act} {Q : Exit → Act → World → Prop} {w : World} (hgd : o.guard = none) (y : Operand) (ho : o.op = .convert 9 30 y) (s : ByteArray) (n : Nat) (L : List Int) (hy : a.eval y = .string s) (hn : s.size = n) (hL : bytesOf s = L) (hsz : s.size ≤ 140737488351300)
    (h : ∀ A cap w', OwnS w' w.heap.size 5 1 (.slice A n cap) n (L.map (Value.int .u8)) → n ≤ cap → cap ≤ 9223372036854775807 → Below w.heap.size w w' → wpList Tryd.prog ops Q rest (a.put o.dst (.slice A n cap)) w') : wpList Tryd.prog ops Q (o :: rest) a w :=
  wpList_plain hgd fun _ hK => by
    subst hn; subst hL
    obtain ⟨A, cap, w', hr, h1, h2, h3, h4⟩ := run_convO w s hsz
    unfold Oper.wp execOp
    simp only [ho, hy, Sem.run_bind, hr, Result.andThen_ok, Sem.run_pure]
    exact hK _ _ (h A cap w' h1 h2 h3 h4)
/-- What printing answers: new bytes, clipped. -/
def BytesPost (w : World) (L : List Int) (e : Ending) (w' : World) : Prop :=
  ∃ A, e = .returned (.slice A L.length L.length) ∧ OwnS w' w.heap.size 5 1 (.slice A L.length L.length) L.length (L.map (Value.int .u8)) ∧ Below w.heap.size w w'
end Go.Proofs.YtdlabapfcghfmaaDoor
namespace Go.Proofs.YtdlabapfcghfmaaDoor
open Go.RowKit
set_option linter.unusedVariables false
set_option linter.unusedSimpArgs false

/-- An entry: mode, name, ID. -/
structure Ent where
  m : ByteArray
  n : ByteArray
  i : ByteArray
/-- A row of entries that reads as these. -/
def EntsAt (w : World) (A : Option Addr) (L : List Ent) : Prop :=
  0 < L.length → ∃ g o, A = some ⟨g, o, none⟩ ∧ g < w.heap.size ∧ ∀ (i : Nat) (x : Ent), L[i]? = some x → w.cell? ⟨g, o + i * 3, none⟩ = some (.string x.m) ∧ w.cell? ⟨g, o + i * 3 + 1, none⟩ = some (.string x.n) ∧ w.cell? ⟨g, o + i * 3 + 2, none⟩ = some (.string x.i)
theorem EntsAt.below {w w' : World} {A : Option Addr} {L : List Ent} (h : EntsAt w A L) (hb : Below w.heap.size w w') : EntsAt w' A L := fun hl => by
  obtain ⟨g, o, h1, h2, h3⟩ := h hl
  exact ⟨g, o, h1, Nat.lt_of_lt_of_le h2 hb.size, fun i x hx => ⟨(hb.cell (p := ⟨g, o + i * 3, none⟩) h2).trans (h3 i x hx).1, (hb.cell (p := ⟨g, o + i * 3 + 1, none⟩) h2).trans (h3 i x hx).2.1, (hb.cell (p := ⟨g, o + i * 3 + 2, none⟩) h2).trans (h3 i x hx).2.2⟩⟩
theorem EntsAt.nil {w : World} {A : Option Addr} : EntsAt w A [] := fun h => absurd h (by simp)
/-- What an entry is printed as, and a tree. -/
def entS (x : Ent) : ByteArray := x.m ++ ⟨#[32]⟩ ++ x.n ++ ⟨#[0]⟩
def entL (x : Ent) : List Int := bytesOf (entS x) ++ rawL x.i
def treeL (L : List Ent) : List Int := L.flatMap entL
theorem entS_size (x : Ent) : (entS x).size = x.m.size + 1 + x.n.size + 1 := by
  unfold entS; rw [ByteArray.size_append, ByteArray.size_append, ByteArray.size_append]; rfl
theorem entL_len (x : Ent) : (entL x).length = x.m.size + 1 + x.n.size + 1 + 20 := by
  unfold entL; rw [List.length_append, bytesOf_len, rawL_len, entS_size]
theorem entL_ok (x : Ent) : Bytes (entL x) := fun y hy => by
  rcases List.mem_append.1 hy with h | h
  · exact bytesOf_ok _ y h
  · exact rawL_ok _ y h
theorem treeL_ok (L : List Ent) : Bytes (treeL L) := fun y hy => by
  obtain ⟨x, _, h⟩ := List.mem_flatMap.1 hy
  exact entL_ok x y h
theorem treeL_succ {L : List Ent} {k : Nat} {x : Ent} (h : L[k]? = some x) : treeL (L.take (k + 1)) = treeL (L.take k) ++ entL x := by
  unfold treeL
  rw [List.take_add_one, h, List.flatMap_append]
  simp
theorem treeL_pre (L : List Ent) (k : Nat) : (treeL (L.take k)).length ≤ (treeL L).length := by
  have e : treeL L = treeL (L.take k) ++ treeL (L.drop k) := by unfold treeL; rw [← List.flatMap_append, List.take_append_drop]
  rw [e, List.length_append]
  omega
def entF (x : Ent) (j : Nat) : Value := if j = 0 then .string x.m else if j = 1 then .string x.n else .string x.i
theorem entF_new (w : World) (x : Ent) : Cel (w.alloc (.cells #[.string x.m, .string x.n, .string x.i] 23)) w.heap.size 23 3 (entF x) :=
  Cel.new w _ #[.string x.m, .string x.n, .string x.i] _ (fun i hi => by
    have : i < 3 := hi
    rcases i with _ | _ | _ | i <;> first | rfl | omega)
theorem bytes_map (s : ByteArray) : (s.data.toList.map fun b => Value.int .u8 b.toNat) = (bytesOf s).map (Value.int .u8) := by
  unfold bytesOf; rw [List.map_map]; rfl
set_option maxRecDepth 100000 in
set_option maxHeartbeats 4000000 in
theorem treeBytes_any (A : Option Addr) (N c : Nat) (L : List Ent) (w : World) (hE : EntsAt w A L) (hN : L.length = N) (hNb : N ≤ 140737488355328) (hid : ∀ x ∈ L, x.i.size ≤ 140737488351232) (hsz : (treeL L).length ≤ 140737488351300) :
    Calls Tryd.prog 112 #[.agg #[.slice A N c]] w (BytesPost w (treeL L)) := by
  obtain ⟨i0, hi, hz0, hz1, hz2⟩ := info_parts Tryd.info_u8
  have HN := Lib.hid hN
  have HSZ := Lib.hid hsz
  have HID := Lib.hid hid
  have hl0 : Below w.heap.size w (w.alloc (.cells #[.slice A N c] 66)) := (Below.refl _ _).alloc (Nat.le_refl _) _
  have HE := Lib.hid (hE.below hl0)
  have HL := Lib.hid hl0
  have k0 : (w.alloc (.cells #[.slice A N c] 66)).cell? ⟨w.heap.size, 0, none⟩ = some (.slice A N c) := by rw [World.cell?_alloc_at _ _ _ _ (by simp)]; rfl
  have HG : Hid (w.heap.size < (w.alloc (.cells #[.slice A N c] 66)).heap.size) := Lib.hid (by simp)
  clear hE hN hsz hl0 hid
  go_enter Tryd.func112, Tryd.ntmps112
  go_upto_region 1 with (fail)
  generalize w.alloc (.cells #[.slice A N c] 66) = w0 at *
  generalize hB : w.heap.size = B at *
  have HB := Lib.hid hB
  clear hB
  go_upto_region 3 with (fail)
  go_loopw [9, 3] (fun vi vo wr => ∃ (k : Nat) (v1 : Value), vi = .int .i64 k ∧ v1 = vo ∧ k ≤ N ∧ OwnS wr w0.heap.size 5 1 v1 (treeL (L.take k)).length ((treeL (L.take k)).map (Value.int .u8)) ∧ Below w0.heap.size w0 wr) (fun vi _ _ => N - (intOf vi).toNat)
  case atStart => exact ⟨0, _, rfl, rfl, Nat.zero_le _, by simpa [treeL] using OwnS.nil _ _ _ _, Below.refl _ _⟩
  case round =>
    obtain ⟨k, v, rfl, rfl, hk, ho, hB2⟩ := hrel
    obtain ⟨Av, cv, rfl⟩ := ho.shape
    have HB0 := Lib.hid hB2
    have HER := Lib.hid (HE.out.below hB2)
    by_cases hlt : k < N
    · obtain ⟨x, hx⟩ : ∃ x, L[k]? = some x := ⟨_, List.getElem?_eq_getElem (by rw [HN.out]; exact hlt)⟩
      have hsx := treeL_succ hx
      have hs1 := treeL_pre L (k + 1)
      rw [hsx, List.length_append, entL_len] at hs1
      have hs2 := HSZ.out
      have HZI : Hid (x.i.size ≤ 140737488355328) := Lib.hid (Nat.le_trans (HID.out x (List.mem_of_getElem? hx)) (by decide))
      obtain ⟨eb, eo, rfl, heb, hcell⟩ := HER.out (by rw [HN.out]; omega)
      obtain ⟨r0, r1, r2⟩ := hcell k x hx
      have d2 : decide ((k : Int) < (N : Int)) = true := decide_eq_true (by omega)
      have d2' : decide (k < N) = true := decide_eq_true hlt
      have HSX := Lib.hid hsx
      have HO := Lib.hid ho
      have HS3 : Hid ((treeL (L.take k)).length + (x.m.size + 1 + x.n.size + 1 + 20) ≤ 140737488351300) := Lib.hid (by omega)
      have sm : x.m.size ≤ 140737488351300 := by omega
      have sn : x.n.size ≤ 140737488351300 := by omega
      clear hcell hx ho hB2 hs1 hs2 hsx heb HER
      go_upto_region 5 with (fail)
      have hl5 : Below wr.heap.size wr (wr.alloc (.cells #[.string x.m, .string x.n, .string x.i] 23)) := (Below.refl _ _).alloc (Nat.le_refl _) _
      have he5 := entF_new wr x
      have HO5 := Lib.hid (HO.out.alloc (.cells #[.string x.m, .string x.n, .string x.i] 23))
      have HB05 := Lib.hid (HB0.out.trans (hl5.mono HB0.out.size))
      clear r0 r1 r2 hl5 HO HB0
      generalize wr.alloc (.cells #[.string x.m, .string x.n, .string x.i] 23) = w5 at *
      generalize wr.heap.size = og at *
      have q0 : w5.cell? ⟨og, 0, none⟩ = some (.string x.m) := he5.cell 0 (by decide)
      have q1 : w5.cell? ⟨og, 1, none⟩ = some (.string x.n) := he5.cell 1 (by decide)
      have HE5 := Lib.hid he5
      clear he5
      have hBs : w0.heap.size ≤ w5.heap.size := HB05.out.size
      have HES : Hid (x.m ++ (⟨#[32]⟩ : ByteArray) ++ x.n ++ (⟨#[0]⟩ : ByteArray) = entS x) := rfl
      have HEZ : Hid ((entS x).size = x.m.size + 1 + x.n.size + 1) := Lib.hid (entS_size x)
      have z1 : (x.m ++ (⟨#[32]⟩ : ByteArray)).size = x.m.size + 1 := by rw [ByteArray.size_append]; rfl
      have z2 : (x.m ++ (⟨#[32]⟩ : ByteArray) ++ x.n).size = x.m.size + 1 + x.n.size := by rw [ByteArray.size_append, z1]
      have z3 : (x.m ++ (⟨#[32]⟩ : ByteArray) ++ x.n ++ (⟨#[0]⟩ : ByteArray)).size = x.m.size + 1 + x.n.size + 1 := by rw [ByteArray.size_append, z2]; rfl
      go_upto_region 6 with (at_builtin; go_loud (refine wpList_append_S rfl (.tmp 13) (.tmp 20) 30 9 rfl i0 (.int .u8 0) 1 .string Tryd.underlying30 Tryd.underlying9 (fun _ h => by cases h) hi hz0 hz1 hz2 rfl rfl rfl HO5.out (Src.str (s := x.m ++ (⟨#[32]⟩ : ByteArray) ++ x.n ++ (⟨#[0]⟩ : ByteArray))) (by rw [z3]; have := HS3.out; unfold maxLen; omega) (by rw [z3]; have := HS3.out; omega) hBs ?_; intro A6 c6 w6 ho6 hg6 hw6))
      have hne := HO5.out.ne_cel HE5.out (by decide)
      have he6 := HE5.out.grown hg6 hne
      have q2 : w6.cell? ⟨og, 2, none⟩ = some (.string x.i) := he6.cell 2 (by decide)
      have HB06 := Lib.hid (HB05.out.grown hg6 hBs (fun k hk => (HO5.out.lt k hk).1))
      rw [z3] at ho6
      have HO6 := Lib.hid ho6
      clear q0 q1 hne he6 ho6 HO5 HE5 HB05 z1 z2 z3 hw6
      go_wp2_with fail
      refine (raw_any x.i w6 HZI.out).mono ?_
      rintro e w7 ⟨A7, c7, rfl, hI7, hb7⟩
      have hs7 : Src Tryd.prog w7 1 (.slice A7 20 c7) 20 ((rawL x.i).map (Value.int .u8)) := by
        have h := Src.ints (P := Tryd.prog) (c := c7) hI7
        rw [rawL_len] at h
        exact h
      have HS7 := Lib.hid hs7
      have HB07 := Lib.hid (HB06.out.trans (hb7.mono HB06.out.size))
      have HO7 := Lib.hid (HO6.out.chg (Chg.of_below (S := fun _ => False) hb7) (fun _ _ h => h))
      have hBs7 : w0.heap.size ≤ w7.heap.size := HB07.out.size
      clear q2 hs7 hI7 hb7 HO6 hg6 hBs
      go_upto_region 7 with (at_builtin; go_loud (refine wpList_append_S rfl (.tmp 22) (.tmp 25) 30 30 rfl i0 (.int .u8 0) 1 (.slice 5) Tryd.underlying30 Tryd.underlying30 (fun _ h => by cases h) hi hz0 hz1 hz2 rfl rfl rfl HO7.out HS7.out (by have := HS3.out; unfold maxLen; omega) (by have := HS3.out; omega) hBs7 ?_; intro A8 c8 w8 ho8 hg8 hw8))
      have HB08 := Lib.hid (HB07.out.grown hg8 hBs7 (fun k hk => (HO7.out.lt k hk).1))
      have ho8' : OwnS w8 w0.heap.size 5 1 (.slice A8 ((treeL (L.take k)).length + (x.m.size + 1 + x.n.size + 1) + 20) c8) (treeL (L.take (k + 1))).length ((treeL (L.take (k + 1))).map (Value.int .u8)) := by
        rw [HSX.out, List.length_append, List.map_append, entL_len]
        unfold entL
        rw [List.map_append, ← List.append_assoc, show bytesOf (entS x) = bytesOf (x.m ++ (⟨#[32]⟩ : ByteArray) ++ x.n ++ (⟨#[0]⟩ : ByteArray)) from rfl, ← bytes_map]
        exact ho8
      have HO8 := Lib.hid ho8'
      clear ho8 ho8' hg8 hw8 HO7 HS7 HB07 HSX hBs7
      go_wp2
      go_roundw
      case rel => exact ⟨k + 1, _, rfl, rfl, by omega, HO8.out, HB08.out⟩
      case measure => simp [intOf]; omega
    · obtain rfl : k = N := by omega
      have d2 : decide ((k : Int) < (k : Int)) = false := decide_eq_false (by omega)
      have d2' : decide (k < k) = false := decide_eq_false (by omega)
      have ho' : OwnS wr w0.heap.size 5 1 (.slice Av (treeL L).length cv) (treeL L).length ((treeL L).map (Value.int .u8)) := by
        rw [List.take_of_length_le (by rw [HN.out]; exact Nat.le_refl _)] at ho
        exact ho
      have HCP := ho'.cap
      have HCM := ho'.capm
      rw [List.take_of_length_le (by rw [HN.out]; exact Nat.le_refl _)]
      have HO := Lib.hid ho'
      clear ho ho' hB2
      go_wp2_with (go_at_call 116; refine (clip_any _ _ _ _ HCP HCM).mono ?_; rintro e w9 ⟨rfl, rfl⟩)
      go_ret
      exact ⟨Av, rfl, (HO.out.clip).base_ (by rw [HB.out]; exact Nat.le_of_lt HG.out), by rw [HB.out]; exact HL.out.trans (HB0.out.mono (Nat.le_of_lt HG.out))⟩
end Go.Proofs.YtdlabapfcghfmaaDoor
namespace Go.Proofs.YtdlabapfcghfmaaDoor
open Go.RowKit
set_option linter.unusedVariables false
set_option linter.unusedSimpArgs false

/-- A row of texts. -/
def StrsAt (w : World) (A : Option Addr) (P : List ByteArray) : Prop :=
  0 < P.length → ∃ g o, A = some ⟨g, o, none⟩ ∧ g < w.heap.size ∧ ∀ (i : Nat) (s : ByteArray), P[i]? = some s → w.cell? ⟨g, o + i, none⟩ = some (.string s)
theorem StrsAt.below {w w' : World} {A : Option Addr} {P : List ByteArray} (h : StrsAt w A P) (hb : Below w.heap.size w w') : StrsAt w' A P := fun hl => by
  obtain ⟨g, o, h1, h2, h3⟩ := h hl
  exact ⟨g, o, h1, Nat.lt_of_lt_of_le h2 hb.size, fun i x hx => (hb.cell (p := ⟨g, o + i, none⟩) h2).trans (h3 i x hx)⟩
theorem StrsAt.nil {w : World} {A : Option Addr} : StrsAt w A [] := fun h => absurd h (by simp)
theorem bytesOf_app (a b : ByteArray) : bytesOf (a ++ b) = bytesOf a ++ bytesOf b := by
  unfold bytesOf; rw [ByteArray.data_append, Array.toList_append, List.map_append]
def treeW : ByteArray := ⟨#[116, 114, 101, 101, 32]⟩
def parentW : ByteArray := ⟨#[112, 97, 114, 101, 110, 116, 32]⟩
def authorW : ByteArray := ⟨#[97, 117, 116, 104, 111, 114, 32]⟩
def committerW : ByteArray := ⟨#[10, 99, 111, 109, 109, 105, 116, 116, 101, 114, 32]⟩
def objectW : ByteArray := ⟨#[111, 98, 106, 101, 99, 116, 32]⟩
def typeW : ByteArray := ⟨#[10, 116, 121, 112, 101, 32]⟩
def tagW : ByteArray := ⟨#[10, 116, 97, 103, 32]⟩
def taggerW : ByteArray := ⟨#[10, 116, 97, 103, 103, 101, 114, 32]⟩
def nlW : ByteArray := ⟨#[10]⟩
def nl2W : ByteArray := ⟨#[10, 10]⟩
/-- A parent's line; a commit's beginning, its end; a tag. -/
def parS (p : ByteArray) : ByteArray := parentW ++ p ++ nlW
def headS (t : ByteArray) : ByteArray := treeW ++ t ++ nlW
def tailS (a c m : ByteArray) : ByteArray := authorW ++ a ++ committerW ++ c ++ nl2W ++ m
def parL (P : List ByteArray) : List Int := P.flatMap fun p => bytesOf (parS p)
def commitL (t : ByteArray) (P : List ByteArray) (a c m : ByteArray) : List Int := bytesOf (headS t) ++ parL P ++ bytesOf (tailS a c m)
def tagS (o k n g m : ByteArray) : ByteArray := objectW ++ o ++ typeW ++ k ++ tagW ++ n ++ taggerW ++ g ++ nl2W ++ m
theorem parS_size (p : ByteArray) : (parS p).size = p.size + 8 := by
  unfold parS; rw [ByteArray.size_append, ByteArray.size_append]; show 7 + p.size + 1 = _; omega
theorem headS_size (t : ByteArray) : (headS t).size = t.size + 6 := by
  unfold headS; rw [ByteArray.size_append, ByteArray.size_append]; show 5 + t.size + 1 = _; omega
theorem tailS_size (a c m : ByteArray) : (tailS a c m).size = a.size + c.size + m.size + 20 := by
  unfold tailS
  rw [ByteArray.size_append, ByteArray.size_append, ByteArray.size_append, ByteArray.size_append, ByteArray.size_append]
  show 7 + a.size + 11 + c.size + 2 + m.size = _
  omega
theorem tagS_size (o k n g m : ByteArray) : (tagS o k n g m).size = o.size + k.size + n.size + g.size + m.size + 28 := by
  unfold tagS
  rw [ByteArray.size_append, ByteArray.size_append, ByteArray.size_append, ByteArray.size_append, ByteArray.size_append, ByteArray.size_append, ByteArray.size_append, ByteArray.size_append, ByteArray.size_append]
  show 7 + o.size + 6 + k.size + 5 + n.size + 8 + g.size + 2 + m.size = _
  omega
theorem parL_succ {P : List ByteArray} {k : Nat} {p : ByteArray} (h : P[k]? = some p) : parL (P.take (k + 1)) = parL (P.take k) ++ bytesOf (parS p) := by
  unfold parL
  rw [List.take_add_one, h, List.flatMap_append]
  simp
theorem parL_pre (P : List ByteArray) (k : Nat) : (parL (P.take k)).length ≤ (parL P).length := by
  have e : parL P = parL (P.take k) ++ parL (P.drop k) := by unfold parL; rw [← List.flatMap_append, List.take_append_drop]
  rw [e, List.length_append]
  omega
theorem parL_ok (P : List ByteArray) : Bytes (parL P) := fun y hy => by
  obtain ⟨x, _, h⟩ := List.mem_flatMap.1 hy
  exact bytesOf_ok _ y h
theorem Bytes.app {a b : List Int} (ha : Bytes a) (hb : Bytes b) : Bytes (a ++ b) := fun y hy => (List.mem_append.1 hy).elim (ha y) (hb y)
theorem commitL_ok (t : ByteArray) (P : List ByteArray) (a c m : ByteArray) : Bytes (commitL t P a c m) := ((bytesOf_ok _).app (parL_ok P)).app (bytesOf_ok _)

theorem bWrite (b : Nat) (L : List Int) (s : ByteArray) (w : World) (h : Lib.IsBuilder 151 5 b b (L.map (Value.int .u8)) w) (hlen : L.length + s.size ≤ 140737488355328) (hBw : b ≤ w.heap.size) :
    Calls Tryd.prog 120 #[.pointer (some ⟨b, 0, none⟩), .string s] w fun e w' => e = .returned (.tuple #[.int .i64 s.size, .nilIface]) ∧ Lib.IsBuilder 151 5 b b ((L ++ bytesOf s).map (Value.int .u8)) w' ∧ Below b w w' :=
  (Any.Builder_WriteString (P := Tryd.prog) (ρ := Tryd.lays166_ren) { Tryd.lays166 with } Tryd.Builder_Extra_166 b b _ s w h (by rw [List.length_map]; exact hlen) hBw).mono fun _ _ ⟨h1, h2, h3⟩ => ⟨h1, .inr (by rw [Lib.strCells_eq] at h2; rw [List.map_append, ← bytes_map]; exact h2), h3⟩
theorem bStr (b : Nat) (L : List Int) (w : World) (h : Lib.IsBuilder 151 5 b b (L.map (Value.int .u8)) w) (hL : Bytes L) (hBw : b ≤ w.heap.size) :
    Calls Tryd.prog 121 #[.pointer (some ⟨b, 0, none⟩)] w fun e w' => e = .returned (.string (strOfNums L)) ∧ Below b w w' := by
  have e : L.map (Value.int .u8) = Lib.byteCells (L.map fun n => UInt8.ofNat n.toNat) := by
    unfold Lib.byteCells
    rw [List.map_map]
    refine List.map_congr_left fun x hx => ?_
    have := hL x hx
    show Value.int .u8 x = Value.int .u8 ((UInt8.ofNat x.toNat).toNat : Int)
    rw [UInt8.toNat_ofNat', Nat.mod_eq_of_lt (by omega), Int.toNat_of_nonneg (by omega)]
  rw [e] at h
  exact (Any.Builder_String_any (P := Tryd.prog) (ρ := Tryd.lays169_ren) { Tryd.lays169 with } Tryd.Builder_Extra_169 b b _ w h hBw).mono fun _ _ ⟨h1, h2⟩ => ⟨h1.trans rfl, h2⟩
end Go.Proofs.YtdlabapfcghfmaaDoor
