/- The law ObjectBack holds where what it reads is of bulk at most 1048576: the call returns true and the argument reads as before; the card ties the tables that the row lists to the program's text. The walk lies in ObQw. -/
import Derived.Test.YtdlabapfcghfmaaGreatDoorCards
import Derived.Test.YtdlabapfcghfmaaGreatDoorTie
import Derived.Deep.DeepHandedRow
import Derived.Test.YtdlabapfcghfmaaGreatDoorRgG
import Derived.Test.YtdlabapfcghfmaaGreatDoorRgF
namespace Go.Proofs.YtdlabapfcghfmaaGreatDoor.objectBackLaw
open Go.ChangeShapes Go.WideShapes Go.ChangeAt Go.RowKit
set_option linter.unusedVariables false

abbrev zeroO : Value := .agg #[.int .i64 0, .string .empty, .slice none 0 0, .string .empty, .slice none 0 0, .string .empty, .string .empty, .string .empty, .string .empty, .int .i64 0, .string .empty, .string .empty]
theorem tree_small (L : List Ent) (N B : Nat) (hN : L.length = N) (hB : N ≤ B) (hs : ∀ x ∈ L, x.m.size ≤ B ∧ x.n.size ≤ B) : (treeL L).length ≤ N * (2 * B + 22) := by
  subst hN
  clear hB
  induction L with
  | nil => simp [treeL]
  | cons x r ih =>
    have h1 := hs x (List.mem_cons_self ..)
    have h2 := ih (fun y hy => hs y (List.mem_cons_of_mem _ hy))
    have e : treeL (x :: r) = entL x ++ treeL r := by simp [treeL]
    rw [e, List.length_append, entL_len, List.length_cons, Nat.add_mul]
    omega
theorem par_small (P : List ByteArray) (N B : Nat) (hN : P.length = N) (hs : ∀ s ∈ P, s.size ≤ B) : (parL P).length ≤ N * (B + 8) := by
  subst hN
  induction P with
  | nil => simp [parL]
  | cons x r ih =>
    have h1 := hs x (List.mem_cons_self ..)
    have h2 := ih (fun y hy => hs y (List.mem_cons_of_mem _ hy))
    have e : parL (x :: r) = bytesOf (parS x) ++ parL r := by simp [parL]
    rw [e, List.length_append, bytesOf_len, parS_size, List.length_cons, Nat.add_mul]
    omega
theorem laid_met (os : Os) : laidMet Tryz.prog Rows.objectBackUptoRow.laid ((laidWorld os).forCall (fun _ _ => 0) ⟨#[], #[zeroO], []⟩).memory :=
  laidMet_of_run' 80 (by kernel_rfl) (by kernel_rfl)
theorem reads (os : Os) {H : Type} (enc : TypeId × Value → H) : ∃ places, DataW.whole enc Tryz.prog ((laidWorld os).forCall (fun _ _ => 0) ⟨#[], #[zeroO], []⟩).memory Tryz.f5.params.toList Rows.objectBackSpec.vars false (#[zeroO] : Array Value).toList 8 = some ([.agg [.lit (.int .i64 0), .lit (.string []), .nil, .lit (.string []), .nil, .lit (.string []), .lit (.string []), .lit (.string []), .lit (.string []), .lit (.int .i64 0), .lit (.string []), .lit (.string [])]], [], places) :=
  ⟨[], by kernel_rfl⟩

set_option maxRecDepth 100000 in
theorem lifted (os : Os) (started : os.Started) (H : Type) (enc : TypeId × Value → H) (F : Stop.Interp) :
    ReturnsInHanded {} Tryz.checked os 5 .any ((Rows.OpenSpec.upto Rows.objectBackSpec).preRow enc Tryz.prog Tryz.f5 Rows.objectBackUptoRow.domain false Rows.objectBackUptoRow.laid) (((Rows.OpenSpec.upto Rows.objectBackSpec).at F).post enc Tryz.prog Tryz.f5 false true false false) := by
  obtain ⟨places, hx⟩ := reads os enc
  refine returnsInHanded_of_row (C := Tryz.checked) (s := Rows.OpenSpec.upto Rows.objectBackSpec) own started (by kernel_rfl) Tryz.func5
    (witness_row_at (enc := enc) (C := Tryz.checked) false (laidWorld os) #[zeroO] rfl (by kernel_rfl) (by kernel_rfl) (by kernel_rfl)
      (OpenSpec.preRow_of_cond 8 hx (by kernel_rfl) (fun k hk => by cases hk; kernel_rfl) (by kernel_rfl) (laid_met os))) ?_
  intro W base args ds gs before hval0 hW hdom hcond _ hL hSh _
  have hk := hcond _ rfl
  have hE : EnvO W := env_of rfl hL
  have hval : ∀ (j : Nat) t v, Tryz.f5.params[j]? = some t → args[j]? = some v → Value.okWide Tryz.prog W .any base t v := hval0
  have hW' := hW
  obtain ⟨p, q, hA0, hV, rfl, hfz, hnd⟩ := hW
  have hA : DataW.TrodAll enc Tryz.prog W 0 (fun _ => true) true Tryz.f5.params.toList args.toList ds p := hA0
  rw [Tryz.params5] at hA hval
  obtain ⟨v0, vs0, d0, ds0, p0, q0, hargs, rfl, rfl, h0, r0⟩ := trodAll_cons hA
  obtain ⟨rfl, rfl, rfl⟩ := trodAll_nil r0
  obtain rfl : args = #[v0] := by cases args; simp_all
  obtain ⟨rfl, rfl⟩ := trodVars_none hV
  have hbulk : Rows.uptoBulkAll ([d0] ++ []) ≤ 1048576 := of_decide_eq_true hk
  simp only [List.append_nil, Rows.uptoBulkAll] at hbulk
  clear hk
  have k0 := h0
  have lt0 : ∀ x ∈ p0, x.block < W.heap.size := by obtain ⟨m, hm⟩ := k0; exact DataW.trod_lt m _ _ _ hm
  obtain ⟨v1, v2, v3, v4, v5, v6, v7, v8, v9, v10, v11, v12, y0, y1, y2, y3, y4, y5, y6, y7, y8, y9, y10, y11, nn, rfl, hd0, t0, t1, t2, t3, t4, t5, t6, t7, t8, t9, t10, t11⟩ := open_agg12 Tryz.underlying50 (by kernel_rfl) (by kernel_rfl) (hval 0 50 v0 rfl rfl) h0
  rw [hd0] at hbulk
  simp only [Rows.uptoBulk, Rows.uptoBulkAll] at hbulk
  obtain ⟨i0, rfl, g0⟩ := openIntF Tryz.underlying3 t0
  obtain ⟨s1, rfl, b1⟩ := openStrF Tryz.underlying9 t1
  obtain ⟨A2, N2, c2, L2, rfl, a2, n2, m2, z2, _⟩ := openEntsF Tryz.underlying23 Tryz.underlying28 (by kernel_rfl) (by kernel_rfl) Tryz.underlying9 Tryz.underlying9 Tryz.underlying9 t2
  obtain ⟨s3, rfl, b3⟩ := openStrF Tryz.underlying9 t3
  obtain ⟨A4, N4, c4, L4, rfl, a4, n4, m4, z4, _⟩ := openStrsF Tryz.underlying25 Tryz.underlying9 (by kernel_rfl) t4
  obtain ⟨s5, rfl, b5⟩ := openStrF Tryz.underlying9 t5
  obtain ⟨s6, rfl, b6⟩ := openStrF Tryz.underlying9 t6
  obtain ⟨s7, rfl, b7⟩ := openStrF Tryz.underlying9 t7
  obtain ⟨s8, rfl, b8⟩ := openStrF Tryz.underlying9 t8
  obtain ⟨i9, rfl, g9⟩ := openIntF Tryz.underlying3 t9
  obtain ⟨s10, rfl, b10⟩ := openStrF Tryz.underlying9 t10
  obtain ⟨s11, rfl, b11⟩ := openStrF Tryz.underlying9 t11
  clear hA0 hval0
  have hc : Calls Tryz.prog 5 #[.agg #[.int .i64 i0, .string s1, .slice A2 N2 c2, .string s3, .slice A4 N4 c4, .string s5, .string s6, .string s7, .string s8, .int .i64 i9, .string s10, .string s11]] W fun e w' => e = .returned (.bool true) ∧ Below W.heap.size W w' := by
    have hz : ∀ s ∈ [s3, s5, s6, s7, s8, s10] ++ L4, s.size ≤ 1048576 := fun s hs => by
      rcases List.mem_append.1 hs with hs | hs
      · simp only [List.mem_cons, List.mem_nil_iff, or_false] at hs
        rcases hs with rfl | rfl | rfl | rfl | rfl | rfl <;> omega
      · have := z4 s hs; omega
    by_cases hr : i0 < 1 ∨ 4 < i0
    · exact backNone i0 s1 _ s3 _ s5 s6 s7 s8 i9 s10 s11 W hE hr
    · have hkn : i0 = 1 ∨ i0 = 2 ∨ i0 = 3 ∨ i0 = 4 := by omega
      rcases hkn with rfl | rfl | rfl | rfl
      · refine backCommit s1 _ s3 A4 N4 c4 L4 s5 s6 s7 s8 i9 s10 s11 W hE a4 n4 (by omega) hz ?_
        have h := par_small L4 N4 1048576 n4 (fun s hs => by have := z4 s hs; omega)
        have h' : N4 * (1048576 + 8) ≤ 1048576 * (1048576 + 8) := Nat.mul_le_mul_right _ (by omega)
        unfold commitL
        rw [List.length_append, List.length_append, bytesOf_len, bytesOf_len, headS_size, tailS_size]
        omega
      · refine backTree s1 A2 N2 c2 L2 s3 _ s5 s6 s7 s8 i9 s10 s11 W hE a2 n2 (by omega) (fun x hx => by have := z2 x hx; omega) ?_ (treeL_ok _)
        have h := tree_small L2 N2 1048576 n2 (by omega) (fun x hx => by have := z2 x hx; omega)
        have h' : N2 * (2 * 1048576 + 22) ≤ 1048576 * (2 * 1048576 + 22) := Nat.mul_le_mul_right _ (by omega)
        omega
      · exact backBlob s1 _ s3 A4 N4 c4 L4 s5 s6 s7 s8 i9 s10 s11 W hE a4 n4 (by omega) hz (by omega)
      · refine backTag s1 _ s3 A4 N4 c4 L4 s5 s6 s7 s8 i9 s10 s11 W hE a4 n4 (by omega) hz ?_
        have h6 : (strOfNums (nameL i9)).size ≤ 6 := by rw [strOfNums_size]; exact nameL_len i9
        rw [tagS_size]
        omega
  refine hc.mono fun e W' ⟨he, bel⟩ => ?_
  subst he
  exact ⟨_, rfl, _, _, _, [], _, [], hW', trodAll_mk1 (shut_bool Tryz.underlying4 _), (trodAll_cons_mk (Below.trod laidOut (by kernel_rfl) (of_decide_eq_true (by kernel_rfl)) k0 bel lt0) trodAll_mk0), rfl, bel.frame _, fun h => by cases h⟩

theorem said : Rows.ObjectBackUptoSaid :=
  OpenClaim.holds_of_cond 5 Tryz.f5 rfl rfl rfl rfl rfl rfl rfl ⟨rfl, rfl, rfl, rfl, rfl⟩ rfl rfl rfl rfl rfl (by kernel_rfl) Tryz.func5 (by kernel_rfl)
    (of_decide_eq_true (by kernel_rfl)) (by unfold Func.isWrapper; first | (rw [if_pos (by decide +kernel)]; kernel_rfl) | (rw [if_neg (by decide +kernel)]; exact ⟨rfl, rfl⟩))
    (fun os started H enc _ F => by rw [OpenClaim.pre_eq_preRow]; exact lifted os started H enc F)
theorem wobj : Tryz.pinned.checked.prog.wantsStandIn 50 = false := by kernel_rfl
theorem plain (f : FuncId) (fn : Func) (hf : Tryz.pinned.checked.prog.funcNamed "stemma/stemmalaw8.ObjectBack" = some f) (hfn : Tryz.pinned.checked.prog.funcs[f]? = some fn) :
    true = Tryz.pinned.checked.prog.looks [] ∧ ∀ (j : Nat) t, fn.params[j]? = some t → Tryz.pinned.checked.prog.wantsStandIn t = false := by
  obtain rfl : f = 5 := Option.some.inj ((show Tryz.prog.funcNamed "stemma/stemmalaw8.ObjectBack" = some 5 by kernel_rfl).symm.trans hf) |>.symm
  obtain rfl : fn = Tryz.f5 := (Option.some.inj (Tryz.func5.symm.trans hfn)).symm
  refine ⟨by kernel_rfl, fun j t ht => ?_⟩
  rw [Tryz.params5] at ht
  exact match j, ht with
  | 0, ht => (show 50 = t by simpa using ht) ▸ wobj
  | j + 1, ht => by simp at ht
theorem proved : Rows.ObjectBackUptoCardSaid :=
  Claim7.holds_tied_plain_at .later [] _ _ _ _ said (fun _ h => by cases h) (by kernel_rfl) (fun _ h => by cases h) objectBackUpto_row_tie rfl ⟨rfl, rfl⟩ (by kernel_rfl) rfl plain (by kernel_rfl)
#print axioms proved
end Go.Proofs.YtdlabapfcghfmaaGreatDoor.objectBackLaw
