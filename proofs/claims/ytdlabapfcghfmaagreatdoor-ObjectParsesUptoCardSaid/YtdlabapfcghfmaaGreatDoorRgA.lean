/- What printing an object needs: Clip, Clone, a string made into bytes of one's own, an ID's twenty bytes (the program's and the document's). -/
import Derived.Test.YtdlabapfcghfmaaGreatDoorObZ
import Derived.Test.YtdlabapfcghfmaaGreatDoorObH
import Derived.Test.YtdlabapfcghfmaaGreatDoorCnv
import Derived.Test.YtdlabapfcghfmaaGreatDoorPh
import Derived.Test.YtdlabapfcghfmaaGreatDoorShelfB
namespace Go.Proofs.YtdlabapfcghfmaaGreatDoor
open Go.RowKit
set_option linter.unusedVariables false
set_option linter.unusedSimpArgs false

theorem OwnS.clip {w : World} {base : Nat} {e : TypeId} {A : Option Addr} {n c : Nat} {xs : List Value} (h : OwnS w base e 1 (.slice A n c) n xs) : OwnS w base e 1 (.slice A n n) n xs := by
  refine ⟨h.1, ?_⟩
  rcases h.2 with ⟨hv, rfl⟩ | ⟨g, off, cap, cur, hv, hb, hg, hn, hm, hs, ht⟩
  · injection hv with hA _ hc
    subst hA
    exact .inl ⟨rfl, rfl⟩
  · injection hv with hA _ hc
    subst hA; subst hc
    exact .inr ⟨g, off, n, cur, rfl, hb, hg, Nat.le_refl _, by omega, by omega, ht⟩
set_option maxRecDepth 100000 in
theorem clip_any (A : Option Addr) (n c : Nat) (w : World) (hn : n ≤ c) (hc : c ≤ 9223372036854775807) :
    Calls Tryz.prog 31 #[.slice A n c] w fun e w' => e = .returned (.slice A n n) ∧ w = w' := by
  have h0 : (n : Int) ≤ c := by omega
  go_enter Tryz.func31, Tryz.ntmps31
  go_wp2
  go_ret
  exact ⟨rfl, rfl⟩
set_option maxRecDepth 100000 in
theorem clone_any (A : Option Addr) (n c : Nat) (xs : List Int) (w : World) (hI : Ints .u8 w A xs) (hn : xs.length = n) (hsz : n ≤ 140737488355000) (hA : A = none → n = 0) :
    Calls Tryz.prog 32 #[.slice A n c] w fun e w' => ∃ A' c', e = .returned (.slice A' n c') ∧ OwnS w' w.heap.size 5 1 (.slice A' n c') n (xs.map (Value.int .u8)) ∧ Below w.heap.size w w' := by
  subst hn
  obtain ⟨i0, hi, hz0, hz1, hz2⟩ := info_parts Tryz.info_u8
  have he := fun (W : World) (a : Option Addr) => Lib.run_eql_slice_nil (P := Tryz.prog) W 24 5 a xs.length c 0 0 Tryz.underlying24
  cases A with
  | none =>
    have h0 := hA rfl
    have hx : xs = [] := List.eq_nil_of_length_eq_zero h0
    subst hx
    have he0 := fun (W : World) => Lib.run_eql_slice_nil (P := Tryz.prog) W 24 5 none 0 c 0 0 Tryz.underlying24
    clear he
    show Calls Tryz.prog 32 #[.slice none 0 c] w _
    go_enter Tryz.func32, Tryz.ntmps32
    go_wp2
    go_ret
    exact ⟨none, 0, rfl, OwnS.nil _ _ _ _, Below.refl _ _⟩
  | some a =>
    go_enter Tryz.func32, Tryz.ntmps32
    go_wp2_with (at_builtin; go_loud (refine wpList_append_S rfl (.tmp 5) (.tmp 6) 24 24 rfl i0 (.int .u8 0) 1 (.slice 5) Tryz.underlying24 Tryz.underlying24 (fun _ h => by cases h) hi hz0 hz1 hz2 rfl rfl rfl (OwnS.empty (base := w.heap.size) (c := 0) (Nat.le_refl _) (heap_alloc_new w _) (by decide) (by simp)) (Src.ints (hI.below ((Below.refl _ _).alloc (Nat.le_refl _) _))) ?_ ?_ ?_ ?_; (unfold maxLen; omega); omega; (simp); intro A5 c5 w5 ho5 hg5 hw5))
    rw [Nat.zero_add, List.nil_append] at ho5
    go_ret
    exact ⟨A5, c5, rfl, ho5, ((Below.refl _ _).alloc (Nat.le_refl _) _).grown hg5 (by simp) (fun k h => by injection h with h; exact Nat.le_of_eq h)⟩

theorem OwnS.capm {w : World} {base : Nat} {e : TypeId} {size n c : Nat} {A : Option Addr} {xs : List Value} (h : OwnS w base e size (.slice A n c) n xs) : c ≤ 9223372036854775807 := by
  rcases h.2 with ⟨hv, rfl⟩ | ⟨g', off, cap, cur, hv, _, _, hn, hm, _⟩
  · injection hv with _ _ hc; omega
  · injection hv with _ _ hc
    unfold maxLen at hm
    omega
/-- Twenty bytes of an ID; noughts if it is none. -/
def rawL (s : ByteArray) : List Int := if hashB (bytesOf s) then unV (bytesOf s) else List.replicate 20 0
theorem rawL_len (s : ByteArray) : (rawL s).length = 20 := by
  unfold rawL
  split
  · next h => unfold hashB at h; simp at h; exact h.2
  · simp
theorem rawL_ok (s : ByteArray) : Bytes (rawL s) := by
  unfold rawL
  split
  · exact unV_ok _
  · intro x hx; rw [List.eq_of_mem_replicate hx]; decide
theorem make20 (w : World) : (Instr.makeSlice 24 (.int .i64 20) (.int .i64 20)).run Tryz.prog w = .ok (.slice (some ⟨w.heap.size, 0, none⟩) 20 20) (w.alloc (.cells (madeCells #[.int .u8 0] 20) 5)) := by
  obtain ⟨i0, hi, hz0, hz1, hz2⟩ := info_parts Tryz.info_u8
  have hr := run_make (P := Tryz.prog) w 24 5 i0 (.int .u8 0) Tryz.underlying24 hi hz0 .i64 .i64 20 20 (by decide) (by decide) (by rw [hz2]; decide) (by decide)
  rw [hz1] at hr
  exact hr
theorem zeros20 : (madeCells #[.int .u8 0] 20).toList = (List.replicate 20 (0 : Int)).map (Value.int .u8) := by kernel_rfl
set_option maxRecDepth 100000 in
theorem raw_any (s : ByteArray) (w : World) (hsz : s.size ≤ 140737488355328) : Calls Tryz.prog 36 #[.string s] w fun e w' => ∃ A c, e = .returned (.slice A 20 c) ∧ Ints .u8 w' A (rawL s) ∧ Below w.heap.size w w' := by
  have HU := Lib.hid (unhex_any s w hsz)
  have hmk := make20
  have HR : Hid (rawL s = if hashB (bytesOf s) then unV (bytesOf s) else List.replicate 20 0) := rfl
  have HH : Hid (hashB (bytesOf s) = (unOk (bytesOf s) && decide ((unV (bytesOf s)).length = 20))) := rfl
  go_enter Tryz.func36, Tryz.ntmps36
  go_wp2_with fail
  refine HU.out.mono ?_
  rintro e w1 ⟨A, c, rfl, hI, hb⟩
  have HB := Lib.hid hb
  have HI := Lib.hid hI
  generalize unV (bytesOf s) = V at *
  clear hI hb HU
  generalize hashB (bytesOf s) = hh at *
  cases ho : unOk (bytesOf s)
  · rw [ho] at HH
    clear ho
    go_wp2
    go_ret
    refine ⟨_, _, rfl, ?_, HB.out.alloc HB.out.size _⟩
    rw [HR.out, if_neg (by rw [HH.out]; simp)]
    exact Ints.of_new (heap_alloc_new _ _) zeros20
  · rw [ho] at HH
    clear ho
    by_cases h : V.length = 20
    · have d1 : ((V.length : Int) != 20) = false := by rw [bne_eq_false_iff_eq]; omega
      rw [decide_eq_true h] at HH
      have HV := Lib.hid h
      clear h
      go_wp2
      go_ret
      refine ⟨A, c, (show Ending.returned (.slice A V.length c) = _ by rw [HV.out]), ?_, HB.out⟩
      rw [HR.out, if_pos (by rw [HH.out]; rfl)]
      exact HI.out
    · have d1 : ((V.length : Int) != 20) = true := by rw [bne_iff_ne]; omega
      rw [decide_eq_false h] at HH
      clear h
      go_wp2
      go_ret
      refine ⟨_, _, rfl, ?_, HB.out.alloc HB.out.size _⟩
      rw [HR.out, if_neg (by rw [HH.out]; simp)]
      exact Ints.of_new (heap_alloc_new _ _) zeros20
def zeroS : ByteArray := ⟨#[48, 48, 48, 48, 48, 48, 48, 48, 48, 48, 48, 48, 48, 48, 48, 48, 48, 48, 48, 48, 48, 48, 48, 48, 48, 48, 48, 48, 48, 48, 48, 48, 48, 48, 48, 48, 48, 48, 48, 48]⟩
theorem zero_un : unV (bytesOf zeroS) = List.replicate 20 0 := by kernel_rfl
theorem zeroR_any (w : World) : Calls Tryz.prog 85 #[] w fun e w' => e = .returned (.string zeroS) ∧ w = w' := by
  go_enter Tryz.func85, Tryz.ntmps85
  go_wp2
  go_ret
  exact ⟨rfl, rfl⟩
/-- A string made into bytes of one's own. -/
theorem run_convO (w : World) (s : ByteArray) (hsz : s.size ≤ 140737488351300) : ∃ A cap w', (convert 9 24 (.string s)).run Tryz.prog w = .ok (.slice A s.size cap) w' ∧ OwnS w' w.heap.size 5 1 (.slice A s.size cap) s.size ((bytesOf s).map (Value.int .u8)) ∧ s.size ≤ cap ∧ cap ≤ 9223372036854775807 ∧ Below w.heap.size w w' := by
  have hge := grownCap_ge w s.size 0 5
  have hcm : grownCap w s.size 0 5 ≤ maxLen := grownCap_le_maxLen w s.size 0 5 (by unfold maxLen; omega)
  have ho := OwnS.of_str w.drew s 5 _ hge hcm
  refine ⟨_, _, _, run_bytes_of_string (P := Tryz.prog) w 9 24 5 s Tryz.underlying9 Tryz.underlying24 Tryz.underlying5, ho, hge, by unfold maxLen at hcm; omega, ((Below.refl _ _).drew).alloc (by simp) _⟩
theorem wpList_convO {ops : Array Oper} {rest : List Oper} {o : Oper} {a : Act} {Q : Exit → Act → World → Prop} {w : World} (hgd : o.guard = none) (y : Operand) (ho : o.op = .convert 9 24 y) (s : ByteArray) (n : Nat) (L : List Int) (hy : a.eval y = .string s) (hn : s.size = n) (hL : bytesOf s = L) (hsz : s.size ≤ 140737488351300)
    (h : ∀ A cap w', OwnS w' w.heap.size 5 1 (.slice A n cap) n (L.map (Value.int .u8)) → n ≤ cap → cap ≤ 9223372036854775807 → Below w.heap.size w w' → wpList Tryz.prog ops Q rest (a.put o.dst (.slice A n cap)) w') : wpList Tryz.prog ops Q (o :: rest) a w :=
  wpList_plain hgd fun _ hK => by
    subst hn; subst hL
    obtain ⟨A, cap, w', hr, h1, h2, h3, h4⟩ := run_convO w s hsz
    unfold Oper.wp execOp
    simp only [ho, hy, Sem.run_bind, hr, Result.andThen_ok, Sem.run_pure]
    exact hK _ _ (h A cap w' h1 h2 h3 h4)
/-- What printing answers: new bytes, clipped. -/
def BytesPost (w : World) (L : List Int) (e : Ending) (w' : World) : Prop :=
  ∃ A, e = .returned (.slice A L.length L.length) ∧ OwnS w' w.heap.size 5 1 (.slice A L.length L.length) L.length (L.map (Value.int .u8)) ∧ Below w.heap.size w w'
end Go.Proofs.YtdlabapfcghfmaaGreatDoor
namespace Go.Proofs.YtdlabapfcghfmaaGreatDoor
open Go.RowKit
set_option linter.unusedVariables false
set_option linter.unusedSimpArgs false

/-- An entry: mode, name, ID. -/
structure Ent where
  m : ByteArray
  n : ByteArray
  i : ByteArray
/-- A row of entries that reads as these. -/
def EntsAt (w : World) (A : Option Addr) (L : List Ent) : Prop :=
  0 < L.length → ∃ g o, A = some ⟨g, o, none⟩ ∧ g < w.heap.size ∧ ∀ (i : Nat) (x : Ent), L[i]? = some x → w.cell? ⟨g, o + i * 3, none⟩ = some (.string x.m) ∧ w.cell? ⟨g, o + i * 3 + 1, none⟩ = some (.string x.n) ∧ w.cell? ⟨g, o + i * 3 + 2, none⟩ = some (.string x.i)
theorem EntsAt.below {w w' : World} {A : Option Addr} {L : List Ent} (h : EntsAt w A L) (hb : Below w.heap.size w w') : EntsAt w' A L := fun hl => by
  obtain ⟨g, o, h1, h2, h3⟩ := h hl
  exact ⟨g, o, h1, Nat.lt_of_lt_of_le h2 hb.size, fun i x hx => ⟨(hb.cell (p := ⟨g, o + i * 3, none⟩) h2).trans (h3 i x hx).1, (hb.cell (p := ⟨g, o + i * 3 + 1, none⟩) h2).trans (h3 i x hx).2.1, (hb.cell (p := ⟨g, o + i * 3 + 2, none⟩) h2).trans (h3 i x hx).2.2⟩⟩
theorem EntsAt.nil {w : World} {A : Option Addr} : EntsAt w A [] := fun h => absurd h (by simp)
/-- What an entry is printed as, and a tree. -/
def entS (x : Ent) : ByteArray := x.m ++ ⟨#[32]⟩ ++ x.n ++ ⟨#[0]⟩
def entL (x : Ent) : List Int := bytesOf (entS x) ++ rawL x.i
def treeL (L : List Ent) : List Int := L.flatMap entL
theorem entS_size (x : Ent) : (entS x).size = x.m.size + 1 + x.n.size + 1 := by
  unfold entS; rw [ByteArray.size_append, ByteArray.size_append, ByteArray.size_append]; rfl
theorem entL_len (x : Ent) : (entL x).length = x.m.size + 1 + x.n.size + 1 + 20 := by
  unfold entL; rw [List.length_append, bytesOf_len, rawL_len, entS_size]
theorem entL_ok (x : Ent) : Bytes (entL x) := fun y hy => by
  rcases List.mem_append.1 hy with h | h
  · exact bytesOf_ok _ y h
  · exact rawL_ok _ y h
theorem treeL_ok (L : List Ent) : Bytes (treeL L) := fun y hy => by
  obtain ⟨x, _, h⟩ := List.mem_flatMap.1 hy
  exact entL_ok x y h
theorem treeL_succ {L : List Ent} {k : Nat} {x : Ent} (h : L[k]? = some x) : treeL (L.take (k + 1)) = treeL (L.take k) ++ entL x := by
  unfold treeL
  rw [List.take_add_one, h, List.flatMap_append]
  simp
theorem treeL_pre (L : List Ent) (k : Nat) : (treeL (L.take k)).length ≤ (treeL L).length := by
  have e : treeL L = treeL (L.take k) ++ treeL (L.drop k) := by unfold treeL; rw [← List.flatMap_append, List.take_append_drop]
  rw [e, List.length_append]
  omega
def entF (x : Ent) (j : Nat) : Value := if j = 0 then .string x.m else if j = 1 then .string x.n else .string x.i
theorem entF_new (w : World) (x : Ent) : Cel (w.alloc (.cells #[.string x.m, .string x.n, .string x.i] 28)) w.heap.size 28 3 (entF x) :=
  Cel.new w _ #[.string x.m, .string x.n, .string x.i] _ (fun i hi => by
    have : i < 3 := hi
    rcases i with _ | _ | _ | i <;> first | rfl | omega)
theorem bytes_map (s : ByteArray) : (s.data.toList.map fun b => Value.int .u8 b.toNat) = (bytesOf s).map (Value.int .u8) := by
  unfold bytesOf; rw [List.map_map]; rfl
set_option maxRecDepth 100000 in
set_option maxHeartbeats 4000000 in
theorem treeBytes_any (A : Option Addr) (N c : Nat) (L : List Ent) (w : World) (hE : EntsAt w A L) (hN : L.length = N) (hNb : N ≤ 140737488355328) (hid : ∀ x ∈ L, x.i.size ≤ 140737488351232) (hsz : (treeL L).length ≤ 140737488351300) :
    Calls Tryz.prog 11 #[.agg #[.slice A N c]] w (BytesPost w (treeL L)) := by
  obtain ⟨i0, hi, hz0, hz1, hz2⟩ := info_parts Tryz.info_u8
  have HN := Lib.hid hN
  have HSZ := Lib.hid hsz
  have HID := Lib.hid hid
  have hl0 : Below w.heap.size w (w.alloc (.cells #[.slice A N c] 36)) := (Below.refl _ _).alloc (Nat.le_refl _) _
  have HE := Lib.hid (hE.below hl0)
  have HL := Lib.hid hl0
  have k0 : (w.alloc (.cells #[.slice A N c] 36)).cell? ⟨w.heap.size, 0, none⟩ = some (.slice A N c) := by rw [World.cell?_alloc_at _ _ _ _ (by simp)]; rfl
  have HG : Hid (w.heap.size < (w.alloc (.cells #[.slice A N c] 36)).heap.size) := Lib.hid (by simp)
  clear hE hN hsz hl0 hid
  go_enter Tryz.func11, Tryz.ntmps11
  go_upto_region 1 with (fail)
  generalize w.alloc (.cells #[.slice A N c] 36) = w0 at *
  generalize hB : w.heap.size = B at *
  have HB := Lib.hid hB
  clear hB
  go_upto_region 3 with (fail)
  go_loopw [9, 3] (fun vi vo wr => ∃ (k : Nat) (v1 : Value), vi = .int .i64 k ∧ v1 = vo ∧ k ≤ N ∧ OwnS wr w0.heap.size 5 1 v1 (treeL (L.take k)).length ((treeL (L.take k)).map (Value.int .u8)) ∧ Below w0.heap.size w0 wr) (fun vi _ _ => N - (intOf vi).toNat)
  case atStart => exact ⟨0, _, rfl, rfl, Nat.zero_le _, by simpa [treeL] using OwnS.nil _ _ _ _, Below.refl _ _⟩
  case round =>
    obtain ⟨k, v, rfl, rfl, hk, ho, hB2⟩ := hrel
    obtain ⟨Av, cv, rfl⟩ := ho.shape
    have HB0 := Lib.hid hB2
    have HER := Lib.hid (HE.out.below hB2)
    by_cases hlt : k < N
    · obtain ⟨x, hx⟩ : ∃ x, L[k]? = some x := ⟨_, List.getElem?_eq_getElem (by rw [HN.out]; exact hlt)⟩
      have hsx := treeL_succ hx
      have hs1 := treeL_pre L (k + 1)
      rw [hsx, List.length_append, entL_len] at hs1
      have hs2 := HSZ.out
      have HZI : Hid (x.i.size ≤ 140737488355328) := Lib.hid (Nat.le_trans (HID.out x (List.mem_of_getElem? hx)) (by decide))
      obtain ⟨eb, eo, rfl, heb, hcell⟩ := HER.out (by rw [HN.out]; omega)
      obtain ⟨r0, r1, r2⟩ := hcell k x hx
      have d2 : decide ((k : Int) < (N : Int)) = true := decide_eq_true (by omega)
      have d2' : decide (k < N) = true := decide_eq_true hlt
      have HSX := Lib.hid hsx
      have HO := Lib.hid ho
      have HS3 : Hid ((treeL (L.take k)).length + (x.m.size + 1 + x.n.size + 1 + 20) ≤ 140737488351300) := Lib.hid (by omega)
      have sm : x.m.size ≤ 140737488351300 := by omega
      have sn : x.n.size ≤ 140737488351300 := by omega
      clear hcell hx ho hB2 hs1 hs2 hsx heb HER
      go_upto_region 5 with (fail)
      have hl5 : Below wr.heap.size wr (wr.alloc (.cells #[.string x.m, .string x.n, .string x.i] 28)) := (Below.refl _ _).alloc (Nat.le_refl _) _
      have he5 := entF_new wr x
      have HO5 := Lib.hid (HO.out.alloc (.cells #[.string x.m, .string x.n, .string x.i] 28))
      have HB05 := Lib.hid (HB0.out.trans (hl5.mono HB0.out.size))
      clear r0 r1 r2 hl5 HO HB0
      generalize wr.alloc (.cells #[.string x.m, .string x.n, .string x.i] 28) = w5 at *
      generalize wr.heap.size = og at *
      have q0 : w5.cell? ⟨og, 0, none⟩ = some (.string x.m) := he5.cell 0 (by decide)
      have q1 : w5.cell? ⟨og, 1, none⟩ = some (.string x.n) := he5.cell 1 (by decide)
      have HE5 := Lib.hid he5
      clear he5
      have hBs : w0.heap.size ≤ w5.heap.size := HB05.out.size
      have HES : Hid (x.m ++ (⟨#[32]⟩ : ByteArray) ++ x.n ++ (⟨#[0]⟩ : ByteArray) = entS x) := rfl
      have HEZ : Hid ((entS x).size = x.m.size + 1 + x.n.size + 1) := Lib.hid (entS_size x)
      have z1 : (x.m ++ (⟨#[32]⟩ : ByteArray)).size = x.m.size + 1 := by rw [ByteArray.size_append]; rfl
      have z2 : (x.m ++ (⟨#[32]⟩ : ByteArray) ++ x.n).size = x.m.size + 1 + x.n.size := by rw [ByteArray.size_append, z1]
      have z3 : (x.m ++ (⟨#[32]⟩ : ByteArray) ++ x.n ++ (⟨#[0]⟩ : ByteArray)).size = x.m.size + 1 + x.n.size + 1 := by rw [ByteArray.size_append, z2]; rfl
      go_upto_region 6 with (at_builtin; go_loud (refine wpList_append_S rfl (.tmp 13) (.tmp 20) 24 9 rfl i0 (.int .u8 0) 1 .string Tryz.underlying24 Tryz.underlying9 (fun _ h => by cases h) hi hz0 hz1 hz2 rfl rfl rfl HO5.out (Src.str (s := x.m ++ (⟨#[32]⟩ : ByteArray) ++ x.n ++ (⟨#[0]⟩ : ByteArray))) (by rw [z3]; have := HS3.out; unfold maxLen; omega) (by rw [z3]; have := HS3.out; omega) hBs ?_; intro A6 c6 w6 ho6 hg6 hw6))
      have hne := HO5.out.ne_cel HE5.out (by decide)
      have he6 := HE5.out.grown hg6 hne
      have q2 : w6.cell? ⟨og, 2, none⟩ = some (.string x.i) := he6.cell 2 (by decide)
      have HB06 := Lib.hid (HB05.out.grown hg6 hBs (fun k hk => (HO5.out.lt k hk).1))
      rw [z3] at ho6
      have HO6 := Lib.hid ho6
      clear q0 q1 hne he6 ho6 HO5 HE5 HB05 z1 z2 z3 hw6
      go_wp2_with fail
      refine (raw_any x.i w6 HZI.out).mono ?_
      rintro e w7 ⟨A7, c7, rfl, hI7, hb7⟩
      have hs7 : Src Tryz.prog w7 1 (.slice A7 20 c7) 20 ((rawL x.i).map (Value.int .u8)) := by
        have h := Src.ints (P := Tryz.prog) (c := c7) hI7
        rw [rawL_len] at h
        exact h
      have HS7 := Lib.hid hs7
      have HB07 := Lib.hid (HB06.out.trans (hb7.mono HB06.out.size))
      have HO7 := Lib.hid (HO6.out.chg (Chg.of_below (S := fun _ => False) hb7) (fun _ _ h => h))
      have hBs7 : w0.heap.size ≤ w7.heap.size := HB07.out.size
      clear q2 hs7 hI7 hb7 HO6 hg6 hBs
      go_upto_region 7 with (at_builtin; go_loud (refine wpList_append_S rfl (.tmp 22) (.tmp 25) 24 24 rfl i0 (.int .u8 0) 1 (.slice 5) Tryz.underlying24 Tryz.underlying24 (fun _ h => by cases h) hi hz0 hz1 hz2 rfl rfl rfl HO7.out HS7.out (by have := HS3.out; unfold maxLen; omega) (by have := HS3.out; omega) hBs7 ?_; intro A8 c8 w8 ho8 hg8 hw8))
      have HB08 := Lib.hid (HB07.out.grown hg8 hBs7 (fun k hk => (HO7.out.lt k hk).1))
      have ho8' : OwnS w8 w0.heap.size 5 1 (.slice A8 ((treeL (L.take k)).length + (x.m.size + 1 + x.n.size + 1) + 20) c8) (treeL (L.take (k + 1))).length ((treeL (L.take (k + 1))).map (Value.int .u8)) := by
        rw [HSX.out, List.length_append, List.map_append, entL_len]
        unfold entL
        rw [List.map_append, ← List.append_assoc, show bytesOf (entS x) = bytesOf (x.m ++ (⟨#[32]⟩ : ByteArray) ++ x.n ++ (⟨#[0]⟩ : ByteArray)) from rfl, ← bytes_map]
        exact ho8
      have HO8 := Lib.hid ho8'
      clear ho8 ho8' hg8 hw8 HO7 HS7 HB07 HSX hBs7
      go_wp2
      go_roundw
      case rel => exact ⟨k + 1, _, rfl, rfl, by omega, HO8.out, HB08.out⟩
      case measure => simp [intOf]; omega
    · obtain rfl : k = N := by omega
      have d2 : decide ((k : Int) < (k : Int)) = false := decide_eq_false (by omega)
      have d2' : decide (k < k) = false := decide_eq_false (by omega)
      have ho' : OwnS wr w0.heap.size 5 1 (.slice Av (treeL L).length cv) (treeL L).length ((treeL L).map (Value.int .u8)) := by
        rw [List.take_of_length_le (by rw [HN.out]; exact Nat.le_refl _)] at ho
        exact ho
      have HCP := ho'.cap
      have HCM := ho'.capm
      rw [List.take_of_length_le (by rw [HN.out]; exact Nat.le_refl _)]
      have HO := Lib.hid ho'
      clear ho ho' hB2
      go_wp2_with (go_at_call 31; refine (clip_any _ _ _ _ HCP HCM).mono ?_; rintro e w9 ⟨rfl, rfl⟩)
      go_ret
      exact ⟨Av, rfl, (HO.out.clip).base_ (by rw [HB.out]; exact Nat.le_of_lt HG.out), by rw [HB.out]; exact HL.out.trans (HB0.out.mono (Nat.le_of_lt HG.out))⟩
end Go.Proofs.YtdlabapfcghfmaaGreatDoor
namespace Go.Proofs.YtdlabapfcghfmaaGreatDoor
open Go.RowKit
set_option linter.unusedVariables false
set_option linter.unusedSimpArgs false

/-- A row of texts. -/
def StrsAt (w : World) (A : Option Addr) (P : List ByteArray) : Prop :=
  0 < P.length → ∃ g o, A = some ⟨g, o, none⟩ ∧ g < w.heap.size ∧ ∀ (i : Nat) (s : ByteArray), P[i]? = some s → w.cell? ⟨g, o + i, none⟩ = some (.string s)
theorem StrsAt.below {w w' : World} {A : Option Addr} {P : List ByteArray} (h : StrsAt w A P) (hb : Below w.heap.size w w') : StrsAt w' A P := fun hl => by
  obtain ⟨g, o, h1, h2, h3⟩ := h hl
  exact ⟨g, o, h1, Nat.lt_of_lt_of_le h2 hb.size, fun i x hx => (hb.cell (p := ⟨g, o + i, none⟩) h2).trans (h3 i x hx)⟩
theorem StrsAt.nil {w : World} {A : Option Addr} : StrsAt w A [] := fun h => absurd h (by simp)
theorem bytesOf_app (a b : ByteArray) : bytesOf (a ++ b) = bytesOf a ++ bytesOf b := by
  unfold bytesOf; rw [ByteArray.data_append, Array.toList_append, List.map_append]
def treeW : ByteArray := ⟨#[116, 114, 101, 101, 32]⟩
def parentW : ByteArray := ⟨#[112, 97, 114, 101, 110, 116, 32]⟩
def authorW : ByteArray := ⟨#[97, 117, 116, 104, 111, 114, 32]⟩
def committerW : ByteArray := ⟨#[10, 99, 111, 109, 109, 105, 116, 116, 101, 114, 32]⟩
def objectW : ByteArray := ⟨#[111, 98, 106, 101, 99, 116, 32]⟩
def typeW : ByteArray := ⟨#[10, 116, 121, 112, 101, 32]⟩
def tagW : ByteArray := ⟨#[10, 116, 97, 103, 32]⟩
def taggerW : ByteArray := ⟨#[10, 116, 97, 103, 103, 101, 114, 32]⟩
def nlW : ByteArray := ⟨#[10]⟩
def nl2W : ByteArray := ⟨#[10, 10]⟩
/-- A parent's line; a commit's beginning, its end; a tag. -/
def parS (p : ByteArray) : ByteArray := parentW ++ p ++ nlW
def headS (t : ByteArray) : ByteArray := treeW ++ t ++ nlW
def tailS (a c m : ByteArray) : ByteArray := authorW ++ a ++ committerW ++ c ++ nl2W ++ m
def parL (P : List ByteArray) : List Int := P.flatMap fun p => bytesOf (parS p)
def commitL (t : ByteArray) (P : List ByteArray) (a c m : ByteArray) : List Int := bytesOf (headS t) ++ parL P ++ bytesOf (tailS a c m)
def tagS (o k n g m : ByteArray) : ByteArray := objectW ++ o ++ typeW ++ k ++ tagW ++ n ++ taggerW ++ g ++ nl2W ++ m
theorem parS_size (p : ByteArray) : (parS p).size = p.size + 8 := by
  unfold parS; rw [ByteArray.size_append, ByteArray.size_append]; show 7 + p.size + 1 = _; omega
theorem headS_size (t : ByteArray) : (headS t).size = t.size + 6 := by
  unfold headS; rw [ByteArray.size_append, ByteArray.size_append]; show 5 + t.size + 1 = _; omega
theorem tailS_size (a c m : ByteArray) : (tailS a c m).size = a.size + c.size + m.size + 20 := by
  unfold tailS
  rw [ByteArray.size_append, ByteArray.size_append, ByteArray.size_append, ByteArray.size_append, ByteArray.size_append]
  show 7 + a.size + 11 + c.size + 2 + m.size = _
  omega
theorem tagS_size (o k n g m : ByteArray) : (tagS o k n g m).size = o.size + k.size + n.size + g.size + m.size + 28 := by
  unfold tagS
  rw [ByteArray.size_append, ByteArray.size_append, ByteArray.size_append, ByteArray.size_append, ByteArray.size_append, ByteArray.size_append, ByteArray.size_append, ByteArray.size_append, ByteArray.size_append]
  show 7 + o.size + 6 + k.size + 5 + n.size + 8 + g.size + 2 + m.size = _
  omega
theorem parL_succ {P : List ByteArray} {k : Nat} {p : ByteArray} (h : P[k]? = some p) : parL (P.take (k + 1)) = parL (P.take k) ++ bytesOf (parS p) := by
  unfold parL
  rw [List.take_add_one, h, List.flatMap_append]
  simp
theorem parL_pre (P : List ByteArray) (k : Nat) : (parL (P.take k)).length ≤ (parL P).length := by
  have e : parL P = parL (P.take k) ++ parL (P.drop k) := by unfold parL; rw [← List.flatMap_append, List.take_append_drop]
  rw [e, List.length_append]
  omega
theorem parL_ok (P : List ByteArray) : Bytes (parL P) := fun y hy => by
  obtain ⟨x, _, h⟩ := List.mem_flatMap.1 hy
  exact bytesOf_ok _ y h
theorem Bytes.app {a b : List Int} (ha : Bytes a) (hb : Bytes b) : Bytes (a ++ b) := fun y hy => (List.mem_append.1 hy).elim (ha y) (hb y)
theorem commitL_ok (t : ByteArray) (P : List ByteArray) (a c m : ByteArray) : Bytes (commitL t P a c m) := ((bytesOf_ok _).app (parL_ok P)).app (bytesOf_ok _)

theorem bWrite (b : Nat) (L : List Int) (s : ByteArray) (w : World) (h : Lib.IsBuilder 81 5 b b (L.map (Value.int .u8)) w) (hlen : L.length + s.size ≤ 140737488355328) (hBw : b ≤ w.heap.size) :
    Calls Tryz.prog 41 #[.pointer (some ⟨b, 0, none⟩), .string s] w fun e w' => e = .returned (.tuple #[.int .i64 s.size, .nilIface]) ∧ Lib.IsBuilder 81 5 b b ((L ++ bytesOf s).map (Value.int .u8)) w' ∧ Below b w w' :=
  (Any.Builder_WriteString (P := Tryz.prog) (ρ := Tryz.lays166_ren) { Tryz.lays166 with } Tryz.Builder_Extra_166 b b _ s w h (by rw [List.length_map]; exact hlen) hBw).mono fun _ _ ⟨h1, h2, h3⟩ => ⟨h1, .inr (by rw [Lib.strCells_eq] at h2; rw [List.map_append, ← bytes_map]; exact h2), h3⟩
theorem bStr (b : Nat) (L : List Int) (w : World) (h : Lib.IsBuilder 81 5 b b (L.map (Value.int .u8)) w) (hL : Bytes L) (hBw : b ≤ w.heap.size) :
    Calls Tryz.prog 42 #[.pointer (some ⟨b, 0, none⟩)] w fun e w' => e = .returned (.string (strOfNums L)) ∧ Below b w w' := by
  have e : L.map (Value.int .u8) = Lib.byteCells (L.map fun n => UInt8.ofNat n.toNat) := by
    unfold Lib.byteCells
    rw [List.map_map]
    refine List.map_congr_left fun x hx => ?_
    have := hL x hx
    show Value.int .u8 x = Value.int .u8 ((UInt8.ofNat x.toNat).toNat : Int)
    rw [UInt8.toNat_ofNat', Nat.mod_eq_of_lt (by omega), Int.toNat_of_nonneg (by omega)]
  rw [e] at h
  exact (Any.Builder_String_any (P := Tryz.prog) (ρ := Tryz.lays169_ren) { Tryz.lays169 with } Tryz.Builder_Extra_169 b b _ w h hBw).mono fun _ _ ⟨h1, h2⟩ => ⟨h1.trans rfl, h2⟩
end Go.Proofs.YtdlabapfcghfmaaGreatDoor
namespace Go.Proofs.YtdlabapfcghfmaaGreatDoor
open Go.RowKit
set_option linter.unusedVariables false
set_option linter.unusedSimpArgs false

set_option maxRecDepth 100000 in
set_option maxHeartbeats 4000000 in
theorem commitBytes_any (t : ByteArray) (A : Option Addr) (N cP : Nat) (P : List ByteArray) (a c m : ByteArray) (w : World) (hS : StrsAt w A P) (hN : P.length = N) (hNb : N ≤ 140737488355328) (hsz : (commitL t P a c m).length ≤ 140737488351300) :
    Calls Tryz.prog 17 #[.agg #[.string t, .slice A N cP, .string a, .string c, .string m]] w (BytesPost w (commitL t P a c m)) := by
  have HN := Lib.hid hN
  have hz : t.size + 6 + (parL P).length + (a.size + c.size + m.size + 20) ≤ 140737488351300 := by
    unfold commitL at hsz
    rw [List.length_append, List.length_append, bytesOf_len, bytesOf_len, headS_size, tailS_size] at hsz
    exact hsz
  have HSZ := Lib.hid hz
  have st : t.size ≤ 140737488351300 := by omega
  have sa : a.size ≤ 140737488351300 := by omega
  have sc : c.size ≤ 140737488351300 := by omega
  have sm : m.size ≤ 140737488351300 := by omega
  have HCZ := Lib.hid hsz
  have HCO := Lib.hid (bytesOf_str _ (commitL_ok t P a c m))
  have HCS : Hid ((strOfNums (commitL t P a c m)).size = (commitL t P a c m).length) := Lib.hid (strOfNums_size _)
  have hl0 : Below w.heap.size w (w.alloc (.cells #[.string t, .slice A N cP, .string a, .string c, .string m] 44)) := (Below.refl _ _).alloc (Nat.le_refl _) _
  have HS := Lib.hid (hS.below hl0)
  have HL := Lib.hid hl0
  have hk0 : ∀ i, i < 5 → (w.alloc (.cells #[.string t, .slice A N cP, .string a, .string c, .string m] 44)).cell? ⟨w.heap.size, i, none⟩ = (#[.string t, .slice A N cP, .string a, .string c, .string m] : Array Value)[i]? := fun i hi => by
    rw [World.cell?_alloc_at _ _ _ _ (by simp)]
  have HG : Hid (w.heap.size < (w.alloc (.cells #[.string t, .slice A N cP, .string a, .string c, .string m] 44)).heap.size) := Lib.hid (by simp)
  have HK := Lib.hid hk0
  clear hS hN hsz hz hl0 hk0
  go_enter Tryz.func17, Tryz.ntmps17
  go_upto_region 1 with (fail)
  generalize w.alloc (.cells #[.string t, .slice A N cP, .string a, .string c, .string m] 44) = w0 at *
  generalize hB : w.heap.size = B at *
  have HB := Lib.hid hB
  clear hB
  go_upto_region 2 with (fail)
  have hb1 := Lib.fresh_isBuilder 81 5 w0
  have hl1 : Below w0.heap.size w0 (w0.alloc (.cells #[.pointer none, .slice none 0 0] 81)) := (Below.refl _ _).alloc (Nat.le_refl _) _
  have HL1 := Lib.hid hl1
  have HB1 := Lib.hid hb1
  clear hb1 hl1
  generalize w0.alloc (.cells #[.pointer none, .slice none 0 0] 81) = w1 at *
  generalize hb : w0.heap.size = b at *
  have HBB := Lib.hid hb
  clear hb
  have HKW : Hid (∀ w', Below b w0 w' → ∀ i, i < 5 → w'.cell? ⟨B, i, none⟩ = (#[.string t, .slice A N cP, .string a, .string c, .string m] : Array Value)[i]?) := Lib.hid (fun w' h i hi => (h.cell (p := ⟨B, i, none⟩) HG.out).trans (HK.out i hi))
  have HSW : Hid (∀ w', Below b w0 w' → StrsAt w' A P) := Lib.hid (fun w' h => HS.out.below (by rw [HBB.out]; exact h))
  clear HK HS
  have k0 : w1.cell? ⟨B, 0, none⟩ = some (.string t) := HKW.out _ HL1.out 0 (by decide)
  have hbw1 : b ≤ w1.heap.size := by rw [← HBB.out]; exact HL1.out.size
  have z1 : ((⟨#[116, 114, 101, 101, 32]⟩ : ByteArray) ++ t).size = 5 + t.size := by rw [ByteArray.size_append]; rfl
  have z2 : ((⟨#[116, 114, 101, 101, 32]⟩ : ByteArray) ++ t ++ (⟨#[10]⟩ : ByteArray)).size = 5 + t.size + 1 := by rw [ByteArray.size_append, z1]; rfl
  go_upto_region 3 with (go_at_call 41; go_loud (refine (bWrite b [] (headS t) w1 HB1.out (by rw [headS_size]; show 0 + _ ≤ _; omega) hbw1).mono ?_); rintro e w2 ⟨rfl, hb2, hl2⟩)
  have HL2 := Lib.hid (HL1.out.trans (hl2.mono (Nat.le_refl _)))
  rw [List.nil_append] at hb2
  have HB2 := Lib.hid hb2
  clear hb2 hl2 k0 z1 z2 hbw1 HB1 HL1
  have k1 : w2.cell? ⟨B, 1, none⟩ = some (.slice A N cP) := HKW.out _ HL2.out 1 (by decide)
  go_upto_region 4 with (fail)
  go_loopw [14] (fun vi wr => ∃ (k : Nat), vi = .int .i64 k ∧ k ≤ N ∧ Lib.IsBuilder 81 5 b b ((bytesOf (headS t) ++ parL (P.take k)).map (Value.int .u8)) wr ∧ Below b w0 wr) (fun vi _ => N - (intOf vi).toNat)
  case atStart => exact ⟨0, rfl, Nat.zero_le _, by simpa [parL] using HB2.out, HL2.out⟩
  case round =>
    clear HB2 HL2 k1
    obtain ⟨k, rfl, hk, hb, hl⟩ := hrel
    have HBK := Lib.hid hb
    have HLK := Lib.hid hl
    have hbw : b ≤ wr.heap.size := by rw [← HBB.out]; exact hl.size
    by_cases hlt : k < N
    · obtain ⟨p, hp⟩ : ∃ p, P[k]? = some p := ⟨_, List.getElem?_eq_getElem (by rw [HN.out]; exact hlt)⟩
      have hsx := parL_succ hp
      have hs1 := parL_pre P (k + 1)
      rw [hsx, List.length_append, bytesOf_len, parS_size] at hs1
      have hs2 := HSZ.out
      obtain ⟨eb, eo, rfl, heb, hcell⟩ := HSW.out wr hl (by rw [HN.out]; omega)
      have r0 := hcell k p hp
      have d2 : decide ((k : Int) < (N : Int)) = true := decide_eq_true (by omega)
      have d2' : decide (k < N) = true := decide_eq_true hlt
      have HSX := Lib.hid hsx
      have HS3 : Hid ((parL (P.take k)).length + (p.size + 8) + (t.size + 6) ≤ 140737488351300) := Lib.hid (by omega)
      have sp : p.size ≤ 140737488351300 := by omega
      clear hcell hp hb hl hs1 hs2 hsx heb
      have z1 : ((⟨#[112, 97, 114, 101, 110, 116, 32]⟩ : ByteArray) ++ p).size = 7 + p.size := by rw [ByteArray.size_append]; rfl
      have z2 : ((⟨#[112, 97, 114, 101, 110, 116, 32]⟩ : ByteArray) ++ p ++ (⟨#[10]⟩ : ByteArray)).size = 7 + p.size + 1 := by rw [ByteArray.size_append, z1]; rfl
      go_upto_region 7 with (go_at_call 41; go_loud (refine (bWrite b (bytesOf (headS t) ++ parL (P.take k)) (parS p) wr HBK.out (by rw [parS_size, List.length_append, bytesOf_len, headS_size]; have := HS3.out; omega) hbw).mono ?_); rintro e w5 ⟨rfl, hb5, hl5⟩)
      have hb5' : Lib.IsBuilder 81 5 b b ((bytesOf (headS t) ++ parL (P.take (k + 1))).map (Value.int .u8)) w5 := by
        rw [HSX.out, ← List.append_assoc]; exact hb5
      have HB5 := Lib.hid hb5'
      have HL5 := Lib.hid (HLK.out.trans (hl5.mono (Nat.le_refl _)))
      clear hb5 hb5' hl5 z1 z2 r0 HBK HLK hbw
      go_wp2
      go_roundw
      case rel => exact ⟨k + 1, rfl, by omega, HB5.out, HL5.out⟩
      case measure => simp [intOf]; omega
    · obtain rfl : k = N := by omega
      have d2 : decide ((k : Int) < (k : Int)) = false := decide_eq_false (by omega)
      have d2' : decide (k < k) = false := decide_eq_false (by omega)
      rw [List.take_of_length_le (by rw [HN.out]; exact Nat.le_refl _)] at hb
      have HBE := Lib.hid hb
      have k2 : wr.cell? ⟨B, 2, none⟩ = some (.string a) := HKW.out _ hl 2 (by decide)
      have k3 : wr.cell? ⟨B, 3, none⟩ = some (.string c) := HKW.out _ hl 3 (by decide)
      have k4 : wr.cell? ⟨B, 4, none⟩ = some (.string m) := HKW.out _ hl 4 (by decide)
      clear hb hl HBK
      have z1 : ((⟨#[97, 117, 116, 104, 111, 114, 32]⟩ : ByteArray) ++ a).size = 7 + a.size := by rw [ByteArray.size_append]; rfl
      have z2 : ((⟨#[97, 117, 116, 104, 111, 114, 32]⟩ : ByteArray) ++ a ++ (⟨#[10, 99, 111, 109, 109, 105, 116, 116, 101, 114, 32]⟩ : ByteArray)).size = 7 + a.size + 11 := by rw [ByteArray.size_append, z1]; rfl
      have z3 : ((⟨#[97, 117, 116, 104, 111, 114, 32]⟩ : ByteArray) ++ a ++ (⟨#[10, 99, 111, 109, 109, 105, 116, 116, 101, 114, 32]⟩ : ByteArray) ++ c).size = 7 + a.size + 11 + c.size := by rw [ByteArray.size_append, z2]
      have z4 : ((⟨#[97, 117, 116, 104, 111, 114, 32]⟩ : ByteArray) ++ a ++ (⟨#[10, 99, 111, 109, 109, 105, 116, 116, 101, 114, 32]⟩ : ByteArray) ++ c ++ (⟨#[10, 10]⟩ : ByteArray)).size = 7 + a.size + 11 + c.size + 2 := by rw [ByteArray.size_append, z3]; rfl
      have z5 : ((⟨#[97, 117, 116, 104, 111, 114, 32]⟩ : ByteArray) ++ a ++ (⟨#[10, 99, 111, 109, 109, 105, 116, 116, 101, 114, 32]⟩ : ByteArray) ++ c ++ (⟨#[10, 10]⟩ : ByteArray) ++ m).size = 7 + a.size + 11 + c.size + 2 + m.size := by rw [ByteArray.size_append, z4]
      go_upto_region 9 with (go_at_call 41; go_loud (refine (bWrite b (bytesOf (headS t) ++ parL P) (tailS a c m) wr HBE.out (by rw [tailS_size, List.length_append, bytesOf_len, headS_size]; have := HSZ.out; omega) hbw).mono ?_); rintro e w5 ⟨rfl, hb5, hl5⟩)
      have HB5 : Hid (Lib.IsBuilder 81 5 b b ((commitL t P a c m).map (Value.int .u8)) w5) := Lib.hid hb5
      have HL5 := Lib.hid (HLK.out.trans (hl5.mono (Nat.le_refl _)))
      have hbw5 : b ≤ w5.heap.size := by rw [← HBB.out]; exact HL5.out.size
      have HBO := Lib.hid (commitL_ok t P a c m)
      clear hb5 hl5 z1 z2 z3 z4 z5 k2 k3 k4 HBE HLK hbw
      generalize commitL t P a c m = CL at *
      go_wp2_with fail
      refine (bStr b CL w5 HB5.out HBO.out hbw5).mono ?_
      rintro e w6 ⟨rfl, hl6⟩
      have HL6 := Lib.hid (HL5.out.trans (hl6.mono (Nat.le_refl _)))
      clear hl6 HB5 HL5 hbw5
      go_wp2_with (refine wpList_convO rfl (.tmp 35) rfl (strOfNums CL) (CL).length (CL) rfl HCS.out HCO.out (by rw [HCS.out]; exact HCZ.out) ?_; intro A9 c9 w9 ho9 hc9 hm9 hb9)
      have HCP := ho9.cap
      have HCM := ho9.capm
      have HO9 := Lib.hid ho9
      have HL9 := Lib.hid (HL6.out.trans (hb9.mono (by rw [← HBB.out]; exact HL6.out.size)))
      have HB69 : Hid (b ≤ w6.heap.size) := Lib.hid (by rw [← HBB.out]; exact HL6.out.size)
      clear ho9 hb9 hc9 hm9 HL6
      go_wp2_with (go_at_call 31; refine (clip_any _ _ _ _ HCP HCM).mono ?_; rintro e w10 ⟨rfl, rfl⟩)
      go_ret
      exact ⟨A9, rfl, (HO9.out.clip).base_ (by rw [HB.out]; exact Nat.le_trans (Nat.le_of_lt HG.out) HB69.out), by rw [HB.out]; exact HL.out.trans (HL9.out.mono (Nat.le_of_lt HG.out))⟩

/-- What holds amid a tag's printing: the text made into bytes, clipped, told. -/
def ITg (w0 : World) (TN : Nat) (TL : List Int) : List Value → World → Prop
  | [], w => Below w0.heap.size w0 w
  | [v], w => Below w0.heap.size w0 w ∧ ∃ A c, v = .slice A TN c ∧ OwnS w w0.heap.size 5 1 (.slice A TN c) TN (TL.map (Value.int .u8))
  | [_, v], w => Below w0.heap.size w0 w ∧ ∃ A, v = .slice A TN TN ∧ OwnS w w0.heap.size 5 1 (.slice A TN TN) TN (TL.map (Value.int .u8))
  | _ :: _ :: v :: _, w => Below w0.heap.size w0 w ∧ ∃ A, v = .slice A TN TN ∧ OwnS w w0.heap.size 5 1 (.slice A TN TN) TN (TL.map (Value.int .u8))
set_option maxRecDepth 100000 in
set_option maxHeartbeats 4000000 in
theorem tagBytes_any (o : ByteArray) (ty : Int) (n g m : ByteArray) (w : World) (hsz : (tagS o (strOfNums (nameL ty)) n g m).size ≤ 140737488351300) :
    Calls Tryz.prog 170 #[.agg #[.string o, .int .i64 ty, .string n, .string g, .string m]] w (BytesPost w (bytesOf (tagS o (strOfNums (nameL ty)) n g m))) := by
  have HNM := Lib.hid (fun w => name_any ty w)
  have hk6 : (strOfNums (nameL ty)).size ≤ 6 := by rw [strOfNums_size]; exact nameL_len ty
  generalize strOfNums (nameL ty) = KN at *
  rw [tagS_size] at hsz
  have HSZ := Lib.hid hsz
  have so : o.size ≤ 140737488351300 := by omega
  have sn : n.size ≤ 140737488351300 := by omega
  have sg : g.size ≤ 140737488351300 := by omega
  have sm : m.size ≤ 140737488351300 := by omega
  have z1 : ((⟨#[111, 98, 106, 101, 99, 116, 32]⟩ : ByteArray) ++ o).size = 7 + o.size := by rw [ByteArray.size_append]; rfl
  have z2 : ((⟨#[111, 98, 106, 101, 99, 116, 32]⟩ : ByteArray) ++ o ++ (⟨#[10, 116, 121, 112, 101, 32]⟩ : ByteArray)).size = 7 + o.size + 6 := by rw [ByteArray.size_append, z1]; rfl
  have z3 : ((⟨#[111, 98, 106, 101, 99, 116, 32]⟩ : ByteArray) ++ o ++ (⟨#[10, 116, 121, 112, 101, 32]⟩ : ByteArray) ++ KN).size = 7 + o.size + 6 + KN.size := by rw [ByteArray.size_append, z2]
  have z4 : ((⟨#[111, 98, 106, 101, 99, 116, 32]⟩ : ByteArray) ++ o ++ (⟨#[10, 116, 121, 112, 101, 32]⟩ : ByteArray) ++ KN ++ (⟨#[10, 116, 97, 103, 32]⟩ : ByteArray)).size = 7 + o.size + 6 + KN.size + 5 := by rw [ByteArray.size_append, z3]; rfl
  have z5 : ((⟨#[111, 98, 106, 101, 99, 116, 32]⟩ : ByteArray) ++ o ++ (⟨#[10, 116, 121, 112, 101, 32]⟩ : ByteArray) ++ KN ++ (⟨#[10, 116, 97, 103, 32]⟩ : ByteArray) ++ n).size = 7 + o.size + 6 + KN.size + 5 + n.size := by rw [ByteArray.size_append, z4]
  have z6 : ((⟨#[111, 98, 106, 101, 99, 116, 32]⟩ : ByteArray) ++ o ++ (⟨#[10, 116, 121, 112, 101, 32]⟩ : ByteArray) ++ KN ++ (⟨#[10, 116, 97, 103, 32]⟩ : ByteArray) ++ n ++ (⟨#[10, 116, 97, 103, 103, 101, 114, 32]⟩ : ByteArray)).size = 7 + o.size + 6 + KN.size + 5 + n.size + 8 := by rw [ByteArray.size_append, z5]; rfl
  have z7 : ((⟨#[111, 98, 106, 101, 99, 116, 32]⟩ : ByteArray) ++ o ++ (⟨#[10, 116, 121, 112, 101, 32]⟩ : ByteArray) ++ KN ++ (⟨#[10, 116, 97, 103, 32]⟩ : ByteArray) ++ n ++ (⟨#[10, 116, 97, 103, 103, 101, 114, 32]⟩ : ByteArray) ++ g).size = 7 + o.size + 6 + KN.size + 5 + n.size + 8 + g.size := by rw [ByteArray.size_append, z6]
  have z8 : ((⟨#[111, 98, 106, 101, 99, 116, 32]⟩ : ByteArray) ++ o ++ (⟨#[10, 116, 121, 112, 101, 32]⟩ : ByteArray) ++ KN ++ (⟨#[10, 116, 97, 103, 32]⟩ : ByteArray) ++ n ++ (⟨#[10, 116, 97, 103, 103, 101, 114, 32]⟩ : ByteArray) ++ g ++ (⟨#[10, 10]⟩ : ByteArray)).size = 7 + o.size + 6 + KN.size + 5 + n.size + 8 + g.size + 2 := by rw [ByteArray.size_append, z7]; rfl
  have z9 : ((⟨#[111, 98, 106, 101, 99, 116, 32]⟩ : ByteArray) ++ o ++ (⟨#[10, 116, 121, 112, 101, 32]⟩ : ByteArray) ++ KN ++ (⟨#[10, 116, 97, 103, 32]⟩ : ByteArray) ++ n ++ (⟨#[10, 116, 97, 103, 103, 101, 114, 32]⟩ : ByteArray) ++ g ++ (⟨#[10, 10]⟩ : ByteArray) ++ m).size = 7 + o.size + 6 + KN.size + 5 + n.size + 8 + g.size + 2 + m.size := by rw [ByteArray.size_append, z8]
  have HTB : Hid (bytesOf ((⟨#[111, 98, 106, 101, 99, 116, 32]⟩ : ByteArray) ++ o ++ (⟨#[10, 116, 121, 112, 101, 32]⟩ : ByteArray) ++ KN ++ (⟨#[10, 116, 97, 103, 32]⟩ : ByteArray) ++ n ++ (⟨#[10, 116, 97, 103, 103, 101, 114, 32]⟩ : ByteArray) ++ g ++ (⟨#[10, 10]⟩ : ByteArray) ++ m) = bytesOf (tagS o KN n g m)) := Lib.hid rfl
  have HTL : Hid (((⟨#[111, 98, 106, 101, 99, 116, 32]⟩ : ByteArray) ++ o ++ (⟨#[10, 116, 121, 112, 101, 32]⟩ : ByteArray) ++ KN ++ (⟨#[10, 116, 97, 103, 32]⟩ : ByteArray) ++ n ++ (⟨#[10, 116, 97, 103, 103, 101, 114, 32]⟩ : ByteArray) ++ g ++ (⟨#[10, 10]⟩ : ByteArray) ++ m).size = (bytesOf (tagS o KN n g m)).length) := Lib.hid (by rw [bytesOf_len]; rfl)
  have hl0 : Below w.heap.size w (w.alloc (.cells #[.string o, .int .i64 ty, .string n, .string g, .string m] 91)) := (Below.refl _ _).alloc (Nat.le_refl _) _
  have HL := Lib.hid hl0
  have HG : Hid (w.heap.size < (w.alloc (.cells #[.string o, .int .i64 ty, .string n, .string g, .string m] 91)).heap.size) := Lib.hid (by simp)
  have hk0 : ∀ i, i < 5 → (w.alloc (.cells #[.string o, .int .i64 ty, .string n, .string g, .string m] 91)).cell? ⟨w.heap.size, i, none⟩ = (#[.string o, .int .i64 ty, .string n, .string g, .string m] : Array Value)[i]? := fun i hi => by
    rw [World.cell?_alloc_at _ _ _ _ (by simp)]
  have HK0 := Lib.hid hk0
  clear hsz hl0 hk0
  go_enter Tryz.func170, Tryz.ntmps170
  go_upto_region 1 with (fail)
  generalize w.alloc (.cells #[.string o, .int .i64 ty, .string n, .string g, .string m] 91) = w0 at *
  generalize hB : w.heap.size = B at *
  have HB := Lib.hid hB
  clear hB
  have HK : Hid (∀ w', Below w0.heap.size w0 w' → ∀ i, i < 5 → w'.cell? ⟨B, i, none⟩ = (#[.string o, .int .i64 ty, .string n, .string g, .string m] : Array Value)[i]?) := Lib.hid (fun w' h i hi => (h.cell (p := ⟨B, i, none⟩) HG.out).trans (HK0.out i hi))
  clear HK0
  generalize hTL : bytesOf (tagS o KN n g m) = TL at *
  generalize hTN : TL.length = TN at *
  have HTN := Lib.hid hTN
  clear hTL hTN
  refine wp_region_ph (by kernel_rfl) [20, 21, 22] [.span 0 0, .span 0 0, .span 0 0, .span 0 0, .span 0 0, .span 0 0, .span 0 0, .span 0 0, .span 0 0, .span 0 0, .span 0 0, .span 0 0, .span 0 0, .span 0 0, .span 0 0, .span 0 0, .span 0 0, .span 0 0, .span 0 0, .span 0 0, .phase 0, .phase 1, .phase 2] [fun z9 => z9 = .pointer (some ⟨B, 0, none⟩), fun z9 => z9 = .string o, fun z9 => z9 = .string ((⟨#[111, 98, 106, 101, 99, 116, 32]⟩ : ByteArray) ++ o), fun z9 => z9 = .string ((⟨#[111, 98, 106, 101, 99, 116, 32]⟩ : ByteArray) ++ o ++ (⟨#[10, 116, 121, 112, 101, 32]⟩ : ByteArray)), fun z9 => z9 = .pointer (some ⟨B, 1, none⟩), fun z9 => z9 = .int .i64 ty, fun z9 => z9 = .string KN, fun z9 => z9 = .string ((⟨#[111, 98, 106, 101, 99, 116, 32]⟩ : ByteArray) ++ o ++ (⟨#[10, 116, 121, 112, 101, 32]⟩ : ByteArray) ++ KN), fun z9 => z9 = .string ((⟨#[111, 98, 106, 101, 99, 116, 32]⟩ : ByteArray) ++ o ++ (⟨#[10, 116, 121, 112, 101, 32]⟩ : ByteArray) ++ KN ++ (⟨#[10, 116, 97, 103, 32]⟩ : ByteArray)), fun z9 => z9 = .pointer (some ⟨B, 2, none⟩), fun z9 => z9 = .string n, fun z9 => z9 = .string ((⟨#[111, 98, 106, 101, 99, 116, 32]⟩ : ByteArray) ++ o ++ (⟨#[10, 116, 121, 112, 101, 32]⟩ : ByteArray) ++ KN ++ (⟨#[10, 116, 97, 103, 32]⟩ : ByteArray) ++ n), fun z9 => z9 = .string ((⟨#[111, 98, 106, 101, 99, 116, 32]⟩ : ByteArray) ++ o ++ (⟨#[10, 116, 121, 112, 101, 32]⟩ : ByteArray) ++ KN ++ (⟨#[10, 116, 97, 103, 32]⟩ : ByteArray) ++ n ++ (⟨#[10, 116, 97, 103, 103, 101, 114, 32]⟩ : ByteArray)), fun z9 => z9 = .pointer (some ⟨B, 3, none⟩), fun z9 => z9 = .string g, fun z9 => z9 = .string ((⟨#[111, 98, 106, 101, 99, 116, 32]⟩ : ByteArray) ++ o ++ (⟨#[10, 116, 121, 112, 101, 32]⟩ : ByteArray) ++ KN ++ (⟨#[10, 116, 97, 103, 32]⟩ : ByteArray) ++ n ++ (⟨#[10, 116, 97, 103, 103, 101, 114, 32]⟩ : ByteArray) ++ g), fun z9 => z9 = .string ((⟨#[111, 98, 106, 101, 99, 116, 32]⟩ : ByteArray) ++ o ++ (⟨#[10, 116, 121, 112, 101, 32]⟩ : ByteArray) ++ KN ++ (⟨#[10, 116, 97, 103, 32]⟩ : ByteArray) ++ n ++ (⟨#[10, 116, 97, 103, 103, 101, 114, 32]⟩ : ByteArray) ++ g ++ (⟨#[10, 10]⟩ : ByteArray)), fun z9 => z9 = .pointer (some ⟨B, 4, none⟩), fun z9 => z9 = .string m, fun z9 => z9 = .string ((⟨#[111, 98, 106, 101, 99, 116, 32]⟩ : ByteArray) ++ o ++ (⟨#[10, 116, 121, 112, 101, 32]⟩ : ByteArray) ++ KN ++ (⟨#[10, 116, 97, 103, 32]⟩ : ByteArray) ++ n ++ (⟨#[10, 116, 97, 103, 103, 101, 114, 32]⟩ : ByteArray) ++ g ++ (⟨#[10, 10]⟩ : ByteArray) ++ m), fun _ => True, fun _ => True, fun _ => True] ((ITg w0 TN TL)) (by kernel_rfl) (by kernel_rfl) (by kernel_rfl) (by kernel_rfl) (by kernel_rfl) (by kernel_rfl) rfl rfl ((show Below w0.heap.size w0 w0.drew from (Below.refl _ _).drew)) ?steps ?done
  case steps =>
    refine ⟨?_, ?_, ?_, ?_, ?_, ?_, ?_, ?_, ?_, ?_, ?_, ?_, ?_, ?_, ?_, ?_, ?_, ?_, ?_, ?_, ?_, ?_, ?_, trivial⟩
    · intro us au w1 k0 hlo hhi ha hd hst hI
      obtain rfl : k0 = 0 := by omega
      have q1 := slot_far (t := 1) (v := .pointer (some ⟨B, 0, none⟩)) ha (by kernel_rfl) (by kernel_rfl)
      have p1 := slot_norm q1
      clear ha hd hst
      exact StepI.pure (v := .pointer (some ⟨B, 0, none⟩)) rfl rfl (by go_simp) ⟨rfl, hI⟩
    · intro us au w1 k1 hlo hhi ha hd hst hI
      obtain rfl : k1 = 0 := by omega
      have e0 := hd 0 _ (by kernel_rfl) rfl
      have q3 := slot_at (t := 3) 0 ha (by kernel_rfl) (by kernel_rfl) (by kernel_rfl) e0
      have p3 := slot_norm q3
      clear ha hd hst
      have kk := HK.out w1 hI 0 (by decide)
      simp only [List.getElem?_toArray] at kk
      exact StepI.pure (v := .string o) rfl rfl (by go_simp) ⟨rfl, hI⟩
    · intro us au w1 k2 hlo hhi ha hd hst hI
      obtain rfl : k2 = 0 := by omega
      have e1 := hd 1 _ (by kernel_rfl) rfl
      have q4 := slot_at (t := 4) 1 ha (by kernel_rfl) (by kernel_rfl) (by kernel_rfl) e1
      have p4 := slot_norm q4
      clear ha hd hst
      exact StepI.pure (v := .string ((⟨#[111, 98, 106, 101, 99, 116, 32]⟩ : ByteArray) ++ o)) rfl rfl (by go_simp; try omega) ⟨rfl, hI⟩
    · intro us au w1 k3 hlo hhi ha hd hst hI
      obtain rfl : k3 = 0 := by omega
      have e2 := hd 2 _ (by kernel_rfl) rfl
      have q5 := slot_at (t := 5) 2 ha (by kernel_rfl) (by kernel_rfl) (by kernel_rfl) e2
      have p5 := slot_norm q5
      clear ha hd hst
      exact StepI.pure (v := .string ((⟨#[111, 98, 106, 101, 99, 116, 32]⟩ : ByteArray) ++ o ++ (⟨#[10, 116, 121, 112, 101, 32]⟩ : ByteArray))) rfl rfl (by go_simp; try omega) ⟨rfl, hI⟩
    · intro us au w1 k4 hlo hhi ha hd hst hI
      obtain rfl : k4 = 0 := by omega
      have q1 := slot_far (t := 1) (v := .pointer (some ⟨B, 0, none⟩)) ha (by kernel_rfl) (by kernel_rfl)
      have p1 := slot_norm q1
      clear ha hd hst
      exact StepI.pure (v := .pointer (some ⟨B, 1, none⟩)) rfl rfl (by go_simp) ⟨rfl, hI⟩
    · intro us au w1 k5 hlo hhi ha hd hst hI
      obtain rfl : k5 = 0 := by omega
      have e4 := hd 4 _ (by kernel_rfl) rfl
      have q7 := slot_at (t := 7) 4 ha (by kernel_rfl) (by kernel_rfl) (by kernel_rfl) e4
      have p7 := slot_norm q7
      clear ha hd hst
      have kk := HK.out w1 hI 1 (by decide)
      simp only [List.getElem?_toArray] at kk
      exact StepI.pure (v := .int .i64 ty) rfl rfl (by go_simp) ⟨rfl, hI⟩
    · intro us au w1 k6 hlo hhi ha hd hst hI
      obtain rfl : k6 = 0 := by omega
      have e5 := hd 5 _ (by kernel_rfl) rfl
      have q8 := slot_at (t := 8) 5 ha (by kernel_rfl) (by kernel_rfl) (by kernel_rfl) e5
      have p8 := slot_norm q8
      clear ha hd hst
      refine StepI.call (f := 53) (args := #[.int .i64 ty]) rfl rfl (by go_simp) ?_
      refine (HNM.out w1).mono ?_
      rintro e w5 ⟨rfl, hb⟩
      exact ⟨_, rfl, rfl, Below.trans hI (hb.mono (Below.size hI))⟩
    · intro us au w1 k7 hlo hhi ha hd hst hI
      obtain rfl : k7 = 0 := by omega
      have e3 := hd 3 _ (by kernel_rfl) rfl
      have e6 := hd 6 _ (by kernel_rfl) rfl
      have q6 := slot_at (t := 6) 3 ha (by kernel_rfl) (by kernel_rfl) (by kernel_rfl) e3
      have p6 := slot_norm q6
      have q9 := slot_at (t := 9) 6 ha (by kernel_rfl) (by kernel_rfl) (by kernel_rfl) e6
      have p9 := slot_norm q9
      clear ha hd hst
      exact StepI.pure (v := .string ((⟨#[111, 98, 106, 101, 99, 116, 32]⟩ : ByteArray) ++ o ++ (⟨#[10, 116, 121, 112, 101, 32]⟩ : ByteArray) ++ KN)) rfl rfl (by go_simp; try omega) ⟨rfl, hI⟩
    · intro us au w1 k8 hlo hhi ha hd hst hI
      obtain rfl : k8 = 0 := by omega
      have e7 := hd 7 _ (by kernel_rfl) rfl
      have q10 := slot_at (t := 10) 7 ha (by kernel_rfl) (by kernel_rfl) (by kernel_rfl) e7
      have p10 := slot_norm q10
      clear ha hd hst
      exact StepI.pure (v := .string ((⟨#[111, 98, 106, 101, 99, 116, 32]⟩ : ByteArray) ++ o ++ (⟨#[10, 116, 121, 112, 101, 32]⟩ : ByteArray) ++ KN ++ (⟨#[10, 116, 97, 103, 32]⟩ : ByteArray))) rfl rfl (by go_simp; try omega) ⟨rfl, hI⟩
    · intro us au w1 k9 hlo hhi ha hd hst hI
      obtain rfl : k9 = 0 := by omega
      have q1 := slot_far (t := 1) (v := .pointer (some ⟨B, 0, none⟩)) ha (by kernel_rfl) (by kernel_rfl)
      have p1 := slot_norm q1
      clear ha hd hst
      exact StepI.pure (v := .pointer (some ⟨B, 2, none⟩)) rfl rfl (by go_simp) ⟨rfl, hI⟩
    · intro us au w1 k10 hlo hhi ha hd hst hI
      obtain rfl : k10 = 0 := by omega
      have e9 := hd 9 _ (by kernel_rfl) rfl
      have q12 := slot_at (t := 12) 9 ha (by kernel_rfl) (by kernel_rfl) (by kernel_rfl) e9
      have p12 := slot_norm q12
      clear ha hd hst
      have kk := HK.out w1 hI 2 (by decide)
      simp only [List.getElem?_toArray] at kk
      exact StepI.pure (v := .string n) rfl rfl (by go_simp) ⟨rfl, hI⟩
    · intro us au w1 k11 hlo hhi ha hd hst hI
      obtain rfl : k11 = 0 := by omega
      have e8 := hd 8 _ (by kernel_rfl) rfl
      have e10 := hd 10 _ (by kernel_rfl) rfl
      have q11 := slot_at (t := 11) 8 ha (by kernel_rfl) (by kernel_rfl) (by kernel_rfl) e8
      have p11 := slot_norm q11
      have q13 := slot_at (t := 13) 10 ha (by kernel_rfl) (by kernel_rfl) (by kernel_rfl) e10
      have p13 := slot_norm q13
      clear ha hd hst
      exact StepI.pure (v := .string ((⟨#[111, 98, 106, 101, 99, 116, 32]⟩ : ByteArray) ++ o ++ (⟨#[10, 116, 121, 112, 101, 32]⟩ : ByteArray) ++ KN ++ (⟨#[10, 116, 97, 103, 32]⟩ : ByteArray) ++ n)) rfl rfl (by go_simp; try omega) ⟨rfl, hI⟩
    · intro us au w1 k12 hlo hhi ha hd hst hI
      obtain rfl : k12 = 0 := by omega
      have e11 := hd 11 _ (by kernel_rfl) rfl
      have q14 := slot_at (t := 14) 11 ha (by kernel_rfl) (by kernel_rfl) (by kernel_rfl) e11
      have p14 := slot_norm q14
      clear ha hd hst
      exact StepI.pure (v := .string ((⟨#[111, 98, 106, 101, 99, 116, 32]⟩ : ByteArray) ++ o ++ (⟨#[10, 116, 121, 112, 101, 32]⟩ : ByteArray) ++ KN ++ (⟨#[10, 116, 97, 103, 32]⟩ : ByteArray) ++ n ++ (⟨#[10, 116, 97, 103, 103, 101, 114, 32]⟩ : ByteArray))) rfl rfl (by go_simp; try omega) ⟨rfl, hI⟩
    · intro us au w1 k13 hlo hhi ha hd hst hI
      obtain rfl : k13 = 0 := by omega
      have q1 := slot_far (t := 1) (v := .pointer (some ⟨B, 0, none⟩)) ha (by kernel_rfl) (by kernel_rfl)
      have p1 := slot_norm q1
      clear ha hd hst
      exact StepI.pure (v := .pointer (some ⟨B, 3, none⟩)) rfl rfl (by go_simp) ⟨rfl, hI⟩
    · intro us au w1 k14 hlo hhi ha hd hst hI
      obtain rfl : k14 = 0 := by omega
      have e13 := hd 13 _ (by kernel_rfl) rfl
      have q16 := slot_at (t := 16) 13 ha (by kernel_rfl) (by kernel_rfl) (by kernel_rfl) e13
      have p16 := slot_norm q16
      clear ha hd hst
      have kk := HK.out w1 hI 3 (by decide)
      simp only [List.getElem?_toArray] at kk
      exact StepI.pure (v := .string g) rfl rfl (by go_simp) ⟨rfl, hI⟩
    · intro us au w1 k15 hlo hhi ha hd hst hI
      obtain rfl : k15 = 0 := by omega
      have e12 := hd 12 _ (by kernel_rfl) rfl
      have e14 := hd 14 _ (by kernel_rfl) rfl
      have q15 := slot_at (t := 15) 12 ha (by kernel_rfl) (by kernel_rfl) (by kernel_rfl) e12
      have p15 := slot_norm q15
      have q17 := slot_at (t := 17) 14 ha (by kernel_rfl) (by kernel_rfl) (by kernel_rfl) e14
      have p17 := slot_norm q17
      clear ha hd hst
      exact StepI.pure (v := .string ((⟨#[111, 98, 106, 101, 99, 116, 32]⟩ : ByteArray) ++ o ++ (⟨#[10, 116, 121, 112, 101, 32]⟩ : ByteArray) ++ KN ++ (⟨#[10, 116, 97, 103, 32]⟩ : ByteArray) ++ n ++ (⟨#[10, 116, 97, 103, 103, 101, 114, 32]⟩ : ByteArray) ++ g)) rfl rfl (by go_simp; try omega) ⟨rfl, hI⟩
    · intro us au w1 k16 hlo hhi ha hd hst hI
      obtain rfl : k16 = 0 := by omega
      have e15 := hd 15 _ (by kernel_rfl) rfl
      have q18 := slot_at (t := 18) 15 ha (by kernel_rfl) (by kernel_rfl) (by kernel_rfl) e15
      have p18 := slot_norm q18
      clear ha hd hst
      exact StepI.pure (v := .string ((⟨#[111, 98, 106, 101, 99, 116, 32]⟩ : ByteArray) ++ o ++ (⟨#[10, 116, 121, 112, 101, 32]⟩ : ByteArray) ++ KN ++ (⟨#[10, 116, 97, 103, 32]⟩ : ByteArray) ++ n ++ (⟨#[10, 116, 97, 103, 103, 101, 114, 32]⟩ : ByteArray) ++ g ++ (⟨#[10, 10]⟩ : ByteArray))) rfl rfl (by go_simp; try omega) ⟨rfl, hI⟩
    · intro us au w1 k17 hlo hhi ha hd hst hI
      obtain rfl : k17 = 0 := by omega
      have q1 := slot_far (t := 1) (v := .pointer (some ⟨B, 0, none⟩)) ha (by kernel_rfl) (by kernel_rfl)
      have p1 := slot_norm q1
      clear ha hd hst
      exact StepI.pure (v := .pointer (some ⟨B, 4, none⟩)) rfl rfl (by go_simp) ⟨rfl, hI⟩
    · intro us au w1 k18 hlo hhi ha hd hst hI
      obtain rfl : k18 = 0 := by omega
      have e17 := hd 17 _ (by kernel_rfl) rfl
      have q20 := slot_at (t := 20) 17 ha (by kernel_rfl) (by kernel_rfl) (by kernel_rfl) e17
      have p20 := slot_norm q20
      clear ha hd hst
      have kk := HK.out w1 hI 4 (by decide)
      simp only [List.getElem?_toArray] at kk
      exact StepI.pure (v := .string m) rfl rfl (by go_simp) ⟨rfl, hI⟩
    · intro us au w1 k19 hlo hhi ha hd hst hI
      obtain rfl : k19 = 0 := by omega
      have e16 := hd 16 _ (by kernel_rfl) rfl
      have e18 := hd 18 _ (by kernel_rfl) rfl
      have q19 := slot_at (t := 19) 16 ha (by kernel_rfl) (by kernel_rfl) (by kernel_rfl) e16
      have p19 := slot_norm q19
      have q21 := slot_at (t := 21) 18 ha (by kernel_rfl) (by kernel_rfl) (by kernel_rfl) e18
      have p21 := slot_norm q21
      clear ha hd hst
      exact StepI.pure (v := .string ((⟨#[111, 98, 106, 101, 99, 116, 32]⟩ : ByteArray) ++ o ++ (⟨#[10, 116, 121, 112, 101, 32]⟩ : ByteArray) ++ KN ++ (⟨#[10, 116, 97, 103, 32]⟩ : ByteArray) ++ n ++ (⟨#[10, 116, 97, 103, 103, 101, 114, 32]⟩ : ByteArray) ++ g ++ (⟨#[10, 10]⟩ : ByteArray) ++ m)) rfl rfl (by go_simp; try omega) ⟨rfl, hI⟩
    · intro us au w1 ha hd hst hI
      have e19 := hd 19 _ (by kernel_rfl) rfl
      have q22 := slot_at (t := 22) 19 ha (by kernel_rfl) (by kernel_rfl) (by kernel_rfl) e19
      have p22 := slot_norm q22
      clear ha hd hst
      obtain ⟨A, cap, w5, hr, ho, _, _, hb5⟩ := run_convO w1 ((⟨#[111, 98, 106, 101, 99, 116, 32]⟩ : ByteArray) ++ o ++ (⟨#[10, 116, 121, 112, 101, 32]⟩ : ByteArray) ++ KN ++ (⟨#[10, 116, 97, 103, 32]⟩ : ByteArray) ++ n ++ (⟨#[10, 116, 97, 103, 103, 101, 114, 32]⟩ : ByteArray) ++ g ++ (⟨#[10, 10]⟩ : ByteArray) ++ m) (by rw [z9]; have := HSZ.out; omega)
      rw [HTL.out] at ho hr
      exact StepI.runs (v := .slice A TN cap) (w' := w5) rfl rfl (by go_simp) ⟨trivial, Below.trans hI (hb5.mono (Below.size hI)), A, cap, rfl, by rw [← HTB.out]; exact ho.base_ (Below.size hI)⟩
    · intro us au w1 ha hd hst hI
      obtain ⟨e20⟩ := hd 20 _ (by kernel_rfl) rfl
      have q23 := slot_at (t := 23) 20 ha (by kernel_rfl) (by kernel_rfl) (by kernel_rfl) (Eq.refl (us 20))
      have p23 := slot_norm q23
      clear ha hd hst
      obtain ⟨hb, A, cap, hv, ho⟩ := hI
      rw [hv] at p23
      refine StepI.call (f := 31) (args := #[.slice A TN cap]) rfl rfl (by go_simp) ?_
      refine (clip_any A TN cap w1 ho.cap ho.capm).mono ?_
      rintro e w5 ⟨rfl, rfl⟩
      exact ⟨_, rfl, trivial, hb, A, rfl, ho.clip⟩
    · intro us au w1 ha hd hst hI
      obtain ⟨e21⟩ := hd 21 _ (by kernel_rfl) rfl
      have q24 := slot_at (t := 24) 21 ha (by kernel_rfl) (by kernel_rfl) (by kernel_rfl) (Eq.refl (us 21))
      have p24 := slot_norm q24
      clear ha hd hst
      obtain ⟨hb, A, hv, ho⟩ := hI
      rw [hv] at p24
      exact StepI.pure (v := .slice A TN TN) rfl rfl (by go_simp) ⟨trivial, hb, A, rfl, ho⟩
  case done =>
    intro us w1 hI hd
    obtain ⟨hb, A, hv, ho⟩ := hI
    have HO := Lib.hid ho
    have HW := Lib.hid hb
    clear hd hb ho
    simp only [putAll, hv]
    go_simp
    go_wp2
    go_ret
    exact ⟨A, by rw [HTN.out]; rfl, by rw [HTN.out]; exact HO.out.base_ (by rw [HB.out]; exact Nat.le_of_lt HG.out), by rw [HB.out]; exact HL.out.trans (HW.out.mono (Nat.le_of_lt HG.out))⟩
set_option maxRecDepth 100000 in
theorem blobBytes_any (A : Option Addr) (N c : Nat) (L : List Int) (w : World) (hI : Ints .u8 w A L) (hN : L.length = N) (hNb : N ≤ 140737488355000) (hA : A = none → N = 0) :
    Calls Tryz.prog 166 #[.agg #[.slice A N c]] w (BytesPost w L) := by
  have hl0 : Below w.heap.size w (w.alloc (.cells #[.slice A N c] 71)) := (Below.refl _ _).alloc (Nat.le_refl _) _
  have HL := Lib.hid hl0
  have k0 : (w.alloc (.cells #[.slice A N c] 71)).cell? ⟨w.heap.size, 0, none⟩ = some (.slice A N c) := by rw [World.cell?_alloc_at _ _ _ _ (by simp)]; rfl
  have HI := Lib.hid (hI.below hl0)
  have HG : Hid (w.heap.size ≤ (w.alloc (.cells #[.slice A N c] 71)).heap.size) := Lib.hid (by simp)
  have HN := Lib.hid hN
  have HA := Lib.hid hA
  clear hI hN hl0 hA
  go_enter Tryz.func166, Tryz.ntmps166
  go_upto_region 1 with (fail)
  generalize w.alloc (.cells #[.slice A N c] 71) = w0 at *
  go_wp2_with fail
  refine (clone_any A N c L w0 HI.out HN.out hNb HA.out).mono ?_
  rintro e w2 ⟨A2, c2, rfl, ho2, hb2⟩
  have HCP := ho2.cap
  have HCM := ho2.capm
  have HO := Lib.hid ho2
  have HB2 := Lib.hid hb2
  clear ho2 hb2
  go_wp2_with (go_at_call 31; refine (clip_any _ _ _ _ HCP HCM).mono ?_; rintro e w10 ⟨rfl, rfl⟩)
  go_ret
  exact ⟨A2, by rw [HN.out]; rfl, by rw [HN.out]; exact (HO.out.clip).base_ HG.out, HL.out.trans (HB2.out.mono HG.out)⟩
end Go.Proofs.YtdlabapfcghfmaaGreatDoor
