/- What is told of a kind's name, of headers, IDs and hashes: the document's side, and any size. -/
import Derived.Test.YtihanglnjghcfaaGreatDoorGLn2
import Derived.Test.YtihanglnjghcfaaGreatDoorGLn0
import Derived.Test.YtihanglnjghcfaaGreatDoorGLn1
import Derived.Orders
namespace Go.Proofs.YtihanglnjghcfaaGreatDoor
open Go.RowKit
set_option linter.unusedVariables false
set_option linter.unusedSimpArgs false

theorem digL_pow : ∀ (k n : Nat), n < 10 ^ (k + 1) → (digL n).length ≤ k + 1
 | 0, n, h => by
  rw [digL_small (by simp at h; omega)]
  simp
 | k + 1, n, h => by
  by_cases h9 : n ≤ 9
  · rw [digL_small h9]; simp
  · rw [digL_big (by omega), List.length_append]
    have := digL_pow k (n / 10) (by rw [Nat.pow_succ] at h; omega)
    simp
    omega
theorem digL_19 (n : Nat) (h : n < 9223372036854775808) : (digL n).length ≤ 19 := digL_pow 18 n (by omega)
theorem headL_19 (k : Int) (n : Nat) (h : n < 9223372036854775808) : (headL k n).length ≤ 27 := by
 unfold headL
 simp only [List.length_append, List.length_cons, List.length_nil]
 have := nameL_len k
 have := digL_19 n h
 omega
end Go.Proofs.YtihanglnjghcfaaGreatDoor
namespace Go.Proofs.YtihanglnjghcfaaGreatDoor
open Go.RowKit
set_option linter.unusedVariables false
set_option linter.unusedSimpArgs false

set_option maxRecDepth 100000 in
set_option maxHeartbeats 1000000 in
theorem digitsB_any (n0 : Nat) (w : World) (h0 : n0 ≤ 9223372036854775807) : Calls Tryz.prog 53 #[.int .i64 n0] w fun e w' => e = .returned (.string (strOfNums (digL n0))) ∧ Below w.heap.size w w' := by
 have hcv : ∀ (W : World) (d : Int), (convert 48 9 (.slice (some ⟨W.heap.size, 0, none⟩) 1 1)).run Tryz.prog (W.alloc (.cells #[.int .u8 d] 5)) = .ok (.string (strOfNums [d])) (W.alloc (.cells #[.int .u8 d] 5)) := fun W d =>
  run_str_ints (P := Tryz.prog) (w := W.alloc (.cells #[.int .u8 d] 5)) 48 9 5 Tryz.underlying48 Tryz.underlying5 Tryz.underlying9 (some ⟨W.heap.size, 0, none⟩) 1 [d] (fun _ => ⟨_, 0, rfl, by simp, fun j hj => by
   obtain rfl : j = 0 := by simpa using hj
   rw [cell_of_row _ _ _ _ _ _ (heap_alloc_new W _)]; rfl⟩)
 go_enter Tryz.func53, Tryz.ntmps53
 go_wp2
 go_loopw [0, 3] (fun vn vs wr => ∃ (n : Nat) (xs : List Int), vn = .int .i64 n ∧ vs = .string (strOfNums xs) ∧ digL n0 = digL n ++ xs ∧ xs.length + n ≤ n0 ∧ Below w.heap.size w wr) (fun vn _ _ => (intOf vn).toNat)
 case atStart => exact ⟨n0, [], rfl, rfl, by simp, by simp, Below.refl _ _⟩
 case round =>
  obtain ⟨n, xs, rfl, rfl, hd, hl, hB⟩ := hrel
  have hsz : (strOfNums xs).size = xs.length := strOfNums_size xs
  by_cases hn : 9 < n
  · have d1 : decide ((9 : Int) < (n : Int)) = true := decide_eq_true (by omega)
    have d1' : decide (9 < n) = true := decide_eq_true hn
    obtain ⟨q, hq⟩ : ∃ q : Nat, q = n / 10 := ⟨_, rfl⟩
    have r4 : IntKind.i64.wrap ((n : Int) / 10) = (q : Int) := by rw [IntWalk.i64_in _ (by omega)]; omega
    have HD : Hid (digL n0 = digL q ++ ((48 + (n : Int) % 10) :: xs)) := Lib.hid (by rw [hd, digL_big hn, hq, List.append_assoc]; rfl)
    have HB := Lib.hid hB
    have hcv' := hcv wr (48 + (n : Int) % 10)
    have HAPP := Lib.hid (str_app [48 + (n : Int) % 10] xs)
    have h1 : (strOfNums [48 + (n : Int) % 10]).size = 1 := strOfNums_size _
    have HLL : Hid (xs.length + 1 + q ≤ n0 ∧ q < n) := Lib.hid (by omega)
    have hxl : xs.length < 9223372036854775807 := by have e := congrArg List.length hd; rw [List.length_append] at e; have := digL_19 n0 (by omega); omega
    have hB2 : Below w.heap.size w (wr.alloc (.cells #[.int .u8 (48 + (n : Int) % 10)] 5)) := hB.trans (((Below.refl _ _).alloc (Nat.le_refl _) _).mono hB.size)
    have HB2 := Lib.hid hB2
    clear hd hB hcv hq hB2
    go_wp2
    go_roundw
    case rel => exact ⟨q, _, rfl, by rw [HAPP.out]; rfl, HD.out, by have := HLL.out; simp only [List.length_cons, List.length_append, List.length_nil]; omega, HB2.out⟩
    case measure => have := HLL.out; simp [intOf]; omega
  · have d1 : decide ((9 : Int) < (n : Int)) = false := decide_eq_false (by omega)
    have d1' : decide (9 < n) = false := decide_eq_false hn
    have r3 : IntKind.u8.wrap (n : Int) = (n : Int) := by rw [IntKind.wrap_u8']; omega
    have r5 : IntKind.u8.wrap (48 + (n : Int)) = 48 + (n : Int) := by rw [IntKind.wrap_u8']; omega
    have hcv' := hcv wr (48 + (n : Int))
    have HAPP := Lib.hid (str_app [48 + (n : Int)] xs)
    have h1 : (strOfNums [48 + (n : Int)]).size = 1 := strOfNums_size _
    have HD : Hid (digL n0 = [48 + (n : Int)] ++ xs) := Lib.hid (by rw [hd, digL_small (by omega)])
    have hxl : xs.length < 9223372036854775807 := by have e := congrArg List.length hd; rw [List.length_append] at e; have := digL_19 n0 (by omega); omega
    have HB2 : Hid (Below w.heap.size w (wr.alloc (.cells #[.int .u8 (48 + (n : Int))] 5))) := Lib.hid (hB.trans (((Below.refl _ _).alloc (Nat.le_refl _) _).mono hB.size))
    clear hd hB hcv
    go_wp2
    go_ret
    exact ⟨by rw [HAPP.out, HD.out]; rfl, HB2.out⟩
set_option maxRecDepth 100000 in
set_option maxHeartbeats 1000000 in
theorem headerN_any (k : Int) (n : Nat) (w : World) (hn : n ≤ 9223372036854775807) : Calls Tryz.prog 58 #[.int .i64 k, .int .i64 n] w fun e w' => e = .returned (.string (strOfNums (headL k n))) ∧ Below w.heap.size w w' := by
 have HNM := Lib.hid (fun w => rname_any k w)
 have HDG := Lib.hid (fun w => digitsB_any n w (by omega))
 have z1 : (strOfNums (nameL k)).size ≤ 6 := by rw [strOfNums_size]; exact nameL_len k
 have z2 : (strOfNums (digL n)).size ≤ 19 := by rw [strOfNums_size]; exact digL_19 n (by omega)
 have HR : Hid (strOfNums (nameL k) ++ ⟨#[32]⟩ ++ strOfNums (digL n) ++ ⟨#[0]⟩ = strOfNums (headL k n)) := Lib.hid (by
  unfold headL
  rw [← str_app, ← str_app, ← str_app]; rfl)
 have z3 : (strOfNums (nameL k) ++ (⟨#[32]⟩ : ByteArray)).size = (strOfNums (nameL k)).size + 1 := by rw [ByteArray.size_append]; rfl
 have z4 : (strOfNums (nameL k) ++ (⟨#[32]⟩ : ByteArray) ++ strOfNums (digL n)).size = (strOfNums (nameL k)).size + 1 + (strOfNums (digL n)).size := by rw [ByteArray.size_append, z3]
 have m0 : ¬ ((n : Int) < 0) := by omega
 generalize strOfNums (nameL k) = S1 at *
 generalize strOfNums (digL n) = S2 at *
 go_enter Tryz.func58, Tryz.ntmps58
 go_wp2_with fail
 refine (HNM.out w).mono ?_
 rintro e w1 ⟨rfl, hb1⟩
 have HB1 := Lib.hid hb1
 clear hb1
 go_wp2_with fail
 refine (HDG.out w1).mono ?_
 rintro e w2 ⟨rfl, hb2⟩
 have HB2 := Lib.hid hb2
 clear hb2
 go_wp2
 go_ret
 exact ⟨by rw [← HR.out]; rfl, HB1.out.trans (HB2.out.mono HB1.out.size)⟩
set_option maxRecDepth 100000 in
set_option maxHeartbeats 1000000 in
theorem ridB_any (k : Int) (s : ByteArray) (w : World) (hs : s.size ≤ 140737488351232) : Calls Tryz.prog 34 #[.int .i64 k, .string s] w fun e w' => e = .returned (.string (strOfNums (hexL (shaAll (headL k s.size ++ bytesOf s))))) ∧ Below w.heap.size w w' := by
 have hhl : (headL k s.size).length ≤ 27 := by
  exact headL_19 k s.size (by omega)
 have hml : (headL k s.size ++ bytesOf s).length ≤ 140737488351300 := by rw [List.length_append, bytesOf_len]; omega
 have hmb : Bytes (headL k s.size ++ bytesOf s) := fun x hx => by
  rcases List.mem_append.1 hx with h | h
  · exact headL_ok _ _ x h
  · exact bytesOf_ok s x h
 have HH := Lib.hid (fun w => headerN_any k s.size w (by omega))
 have HS := Lib.hid (fun w => oidSum_any (headL k s.size ++ bytesOf s) w hmb hml)
 have HX := Lib.hid (fun w A c hI => hexR_any A 20 c (shaAll (headL k s.size ++ bytesOf s)) w hI (oid_sha_len _) (oid_sha_bytes _) (by decide))
 have z1 : (strOfNums (headL k s.size)).size ≤ 27 := by rw [strOfNums_size]; exact hhl
 have HC : Hid (strOfNums (headL k s.size) ++ s = strOfNums (headL k s.size ++ bytesOf s)) := Lib.hid (by rw [← str_app, strOfNums_bytes])
 generalize strOfNums (headL k s.size) = S1 at *
 clear hhl hml hmb
 go_enter Tryz.func34, Tryz.ntmps34
 go_wp2_with fail
 refine (HH.out w).mono ?_
 rintro e w1 ⟨rfl, hb1⟩
 have HB1 := Lib.hid hb1
 clear hb1
 have HSS := Lib.hid (HS.out w1)
 rw [← HC.out] at HSS
 obtain ⟨S2, hS2⟩ : ∃ S2, S1 ++ s = S2 := ⟨_, rfl⟩
 rw [hS2] at HSS
 go_wp2_with fail
 refine HSS.out.mono ?_
 rintro e w2 ⟨A2, c2, rfl, ho2, hb2⟩
 have HXX := Lib.hid (HX.out w2 A2 c2 ho2.ints)
 rw [oid_sha_len]
 have HB2 := Lib.hid hb2
 clear ho2 hb2 hS2
 go_wp2_with fail
 refine HXX.out.mono ?_
 rintro e w3 ⟨rfl, hb3⟩
 have HB3 := Lib.hid hb3
 clear hb3
 go_wp2
 go_ret
 exact ⟨rfl, HB1.out.trans ((HB2.out.trans (HB3.out.mono HB2.out.size)).mono HB1.out.size)⟩
end Go.Proofs.YtihanglnjghcfaaGreatDoor
namespace Go.Proofs.YtihanglnjghcfaaGreatDoor
open Go.RowKit
set_option linter.unusedVariables false
set_option linter.unusedSimpArgs false

/-- Is a text a hash? -/
def hashB (l : List Int) : Bool := unOk l && decide ((unV l).length = 20)
set_option maxRecDepth 100000 in
theorem hash_any (s : ByteArray) (w : World) (hsz : s.size ≤ 140737488355328) : Calls Tryz.prog 110 #[.string s] w fun e w' => e = .returned (.bool (hashB (bytesOf s))) ∧ Below w.heap.size w w' := by
 have HU := Lib.hid (unhex_any s w hsz)
 go_enter Tryz.func110, Tryz.ntmps110
 go_wp2_with fail
 refine HU.out.mono ?_
 rintro e w1 ⟨A, c, rfl, hI, hb⟩
 have HB := Lib.hid hb
 have HH : Hid (hashB (bytesOf s) = (unOk (bytesOf s) && decide ((unV (bytesOf s)).length = 20))) := rfl
 generalize unV (bytesOf s) = V at *
 clear hI hb HU
 cases ho : unOk (bytesOf s)
 · rw [ho] at HH
   clear ho
   go_wp2
   go_ret
   exact ⟨by rw [HH.out]; rfl, HB.out⟩
 · rw [ho] at HH
   clear ho
   by_cases h : V.length = 20
   · have d1 : ((V.length : Int) == 20) = true := by rw [beq_iff_eq]; omega
     rw [decide_eq_true h] at HH
     clear h
     go_wp2
     go_ret
     exact ⟨by rw [HH.out]; rfl, HB.out⟩
   · have d1 : ((V.length : Int) == 20) = false := by rw [beq_eq_false_iff_ne]; omega
     rw [decide_eq_false h] at HH
     clear h
     go_wp2
     go_ret
     exact ⟨by rw [HH.out]; rfl, HB.out⟩
end Go.Proofs.YtihanglnjghcfaaGreatDoor
namespace Go.Proofs.YtihanglnjghcfaaGreatDoor
open Go.RowKit
set_option linter.unusedVariables false
set_option linter.unusedSimpArgs false

theorem OwnS.clip {w : World} {base : Nat} {e : TypeId} {A : Option Addr} {n c : Nat} {xs : List Value} (h : OwnS w base e 1 (.slice A n c) n xs) : OwnS w base e 1 (.slice A n n) n xs := by
 refine ⟨h.1, ?_⟩
 rcases h.2 with ⟨hv, rfl⟩ | ⟨g, off, cap, cur, hv, hb, hg, hn, hm, hs, ht⟩
 · injection hv with hA _ hc
   subst hA
   exact .inl ⟨rfl, rfl⟩
 · injection hv with hA _ hc
   subst hA; subst hc
   exact .inr ⟨g, off, n, cur, rfl, hb, hg, Nat.le_refl _, by omega, by omega, ht⟩
set_option maxRecDepth 100000 in
theorem clip_any (A : Option Addr) (n c : Nat) (w : World) (hn : n ≤ c) (hc : c ≤ 9223372036854775807) :
 Calls Tryz.prog 82 #[.slice A n c] w fun e w' => e = .returned (.slice A n n) ∧ w = w' := by
 have h0 : (n : Int) ≤ c := by omega
 go_enter Tryz.func82, Tryz.ntmps82
 go_wp2
 go_ret
 exact ⟨rfl, rfl⟩
set_option maxRecDepth 100000 in
theorem clone_any (A : Option Addr) (n c : Nat) (xs : List Int) (w : World) (hI : Ints .u8 w A xs) (hn : xs.length = n) (hsz : n ≤ 140737488355000) (hA : A = none → n = 0) :
 Calls Tryz.prog 83 #[.slice A n c] w fun e w' => ∃ A' c', e = .returned (.slice A' n c') ∧ OwnS w' w.heap.size 5 1 (.slice A' n c') n (xs.map (Value.int .u8)) ∧ Below w.heap.size w w' := by
 subst hn
 obtain ⟨i0, hi, hz0, hz1, hz2⟩ := info_parts Tryz.info_u8
 have he := fun (W : World) (a : Option Addr) => Lib.run_eql_slice_nil (P := Tryz.prog) W 48 5 a xs.length c 0 0 Tryz.underlying48
 cases A with
 | none =>
  have h0 := hA rfl
  have hx : xs = [] := List.eq_nil_of_length_eq_zero h0
  subst hx
  have he0 := fun (W : World) => Lib.run_eql_slice_nil (P := Tryz.prog) W 48 5 none 0 c 0 0 Tryz.underlying48
  clear he
  show Calls Tryz.prog 83 #[.slice none 0 c] w _
  go_enter Tryz.func83, Tryz.ntmps83
  go_wp2
  go_ret
  exact ⟨none, 0, rfl, OwnS.nil _ _ _ _, Below.refl _ _⟩
 | some a =>
  go_enter Tryz.func83, Tryz.ntmps83
  go_wp2_with (at_builtin; go_loud (refine wpList_append_S rfl (.tmp 5) (.tmp 6) 48 48 rfl i0 (.int .u8 0) 1 (.slice 5) Tryz.underlying48 Tryz.underlying48 (fun _ h => by cases h) hi hz0 hz1 hz2 rfl rfl rfl (OwnS.empty (base := w.heap.size) (c := 0) (Nat.le_refl _) (heap_alloc_new w _) (by decide) (by simp)) (Src.ints (hI.below ((Below.refl _ _).alloc (Nat.le_refl _) _))) ?_ ?_ ?_ ?_; (unfold maxLen; omega); omega; (simp); intro A5 c5 w5 ho5 hg5 hw5))
  rw [Nat.zero_add, List.nil_append] at ho5
  go_ret
  exact ⟨A5, c5, rfl, ho5, ((Below.refl _ _).alloc (Nat.le_refl _) _).grown hg5 (by simp) (fun k h => by injection h with h; exact Nat.le_of_eq h)⟩

theorem OwnS.capm {w : World} {base : Nat} {e : TypeId} {size n c : Nat} {A : Option Addr} {xs : List Value} (h : OwnS w base e size (.slice A n c) n xs) : c ≤ 9223372036854775807 := by
 rcases h.2 with ⟨hv, rfl⟩ | ⟨g', off, cap, cur, hv, _, _, hn, hm, _⟩
 · injection hv with _ _ hc; omega
 · injection hv with _ _ hc
   unfold maxLen at hm
   omega
/-- Twenty bytes of an ID; noughts if it is none. -/
def rawL (s : ByteArray) : List Int := if hashB (bytesOf s) then unV (bytesOf s) else List.replicate 20 0
/-- A string made into bytes of one's own. -/
theorem run_convO (w : World) (s : ByteArray) (hsz : s.size ≤ 140737488351300) : ∃ A cap w', (convert 9 48 (.string s)).run Tryz.prog w = .ok (.slice A s.size cap) w' ∧ OwnS w' w.heap.size 5 1 (.slice A s.size cap) s.size ((bytesOf s).map (Value.int .u8)) ∧ s.size ≤ cap ∧ cap ≤ 9223372036854775807 ∧ Below w.heap.size w w' := by
 have hge := grownCap_ge w s.size 0 5
 have hcm : grownCap w s.size 0 5 ≤ maxLen := grownCap_le_maxLen w s.size 0 5 (by unfold maxLen; omega)
 have ho := OwnS.of_str w.drew s 5 _ hge hcm
 refine ⟨_, _, _, run_bytes_of_string (P := Tryz.prog) w 9 48 5 s Tryz.underlying9 Tryz.underlying48 Tryz.underlying5, ho, hge, by unfold maxLen at hcm; omega, ((Below.refl _ _).drew).alloc (by simp) _⟩
theorem wpList_convO {ops : Array Oper} {rest : List Oper} {o : Oper} {a : Act} {Q : Exit → Act → World → Prop} {w : World} (hgd : o.guard = none) (y : Operand) (ho : o.op = .convert 9 48 y) (s : ByteArray) (n : Nat) (L : List Int) (hy : a.eval y = .string s) (hn : s.size = n) (hL : bytesOf s = L) (hsz : s.size ≤ 140737488351300)
 (h : ∀ A cap w', OwnS w' w.heap.size 5 1 (.slice A n cap) n (L.map (Value.int .u8)) → n ≤ cap → cap ≤ 9223372036854775807 → Below w.heap.size w w' → wpList Tryz.prog ops Q rest (a.put o.dst (.slice A n cap)) w') : wpList Tryz.prog ops Q (o :: rest) a w :=
 wpList_plain hgd fun _ hK => by
  subst hn; subst hL
  obtain ⟨A, cap, w', hr, h1, h2, h3, h4⟩ := run_convO w s hsz
  unfold Oper.wp execOp
  simp only [ho, hy, Sem.run_bind, hr, Result.andThen_ok, Sem.run_pure]
  exact hK _ _ (h A cap w' h1 h2 h3 h4)
end Go.Proofs.YtihanglnjghcfaaGreatDoor
namespace Go.Proofs.YtihanglnjghcfaaGreatDoor
open Go.RowKit

/-- The act behind values us for the operations l, of which the first has the number k. -/
def putAll (us : Nat → Value) : List Oper → Nat → Act → Act
 | [], _, a => a
 | o :: l, k, a => putAll us l (k + 1) (a.put o.dst (us k))
def upd (us : Nat → Value) (i : Nat) (v : Value) : Nat → Value := fun j => if j = i then v else us j

theorem put_put (a : Act) (d : Option Tmp) (u v : Value) : (a.put d u).put d v = a.put d v := by
 cases d with
 | none => rfl
 | some t => simp [Act.put]
theorem putAll_put_far (us : Nat → Value) : ∀ (l : List Oper) (k : Nat) (a : Act) (d : Option Tmp) (v : Value), (∀ o ∈ l, ∀ t, d = some t → o.dst ≠ some t) → (putAll us l k a).put d v = putAll us l k (a.put d v)
 | [], _, _, _, _, _ => rfl
 | o :: l, k, a, d, v, h => by
  rw [putAll, putAll, putAll_put_far us l (k + 1) _ d v (fun o' h' => h o' (by simp [h']))]
  congr 1
  cases d with
  | none => rfl
  | some t => exact (Act.put_comm a v (us k) (fun t' ht' e => h o (by simp) t' ht' e)).symm
theorem putAll_far (us us' : Nat → Value) : ∀ (l : List Oper) (k : Nat) (a : Act), (∀ j, k ≤ j → us j = us' j) → putAll us l k a = putAll us' l k a
 | [], _, _, _ => rfl
 | o :: l, k, a, h => by rw [putAll, putAll, h k (Nat.le_refl _), putAll_far us us' l (k + 1) _ (fun j hj => h j (by omega))]
def distinct : List Oper → Bool
 | [] => true
 | o :: l => (match o.dst with | some t => l.all (fun o' => o'.dst != some t) | none => true) && distinct l
theorem putAll_put (us : Nat → Value) : ∀ (l : List Oper) (k : Nat) (a : Act) (i : Nat) (o : Oper) (v : Value), distinct l = true → l[i]? = some o → (putAll us l k a).put o.dst v = putAll (upd us (k + i) v) l k a
 | [], _, _, _, _, _, _, h => by simp at h
 | o' :: l, k, a, i, o, v, hd, h => by
  rw [distinct, Bool.and_eq_true] at hd
  cases i with
  | zero =>
   simp at h
   subst h
   rw [putAll, putAll]
   rw [putAll_put_far us l (k + 1) _ o'.dst v (fun o'' ho'' t ht e => by
    have := hd.1
    rw [ht] at this
    simp only [List.all_eq_true] at this
    have := this o'' ho''
    simp [e] at this)]
   rw [put_put]
   rw [show upd us (k + 0) v k = v by simp [upd]]
   exact putAll_far _ _ l (k + 1) _ (fun j hj => by unfold upd; rw [if_neg (by omega)])
  | succ i =>
   simp at h
   rw [putAll, putAll]
   rw [show upd us (k + (i + 1)) v k = us k by unfold upd; rw [if_neg (by omega)]]
   rw [putAll_put us l (k + 1) (a.put o'.dst (us k)) i o v hd.2 h]
   congr 2
   omega
theorem putAll_id (us : Nat → Value) : ∀ (l : List Oper) (k : Nat) (a : Act), (∀ i o, l[i]? = some o → a.put o.dst (us (k + i)) = a) → putAll us l k a = a
 | [], _, _, _ => rfl
 | o :: l, k, a, h => by
  have h0 := h 0 o rfl
  rw [Nat.add_zero] at h0
  rw [putAll, h0]
  exact putAll_id us l (k + 1) a (fun i o' h' => by
   have := h (i + 1) o' (by simpa using h')
   rwa [show k + (i + 1) = k + 1 + i by omega] at this)
def startV (l : List Oper) (a : Act) (i : Nat) : Value := match (l[i]?).bind (·.dst) with | some t => a.tmps.getD t undef | none => undef
theorem put_same (a : Act) (t : Tmp) : a.put (some t) (a.tmps.getD t undef) = a := by
 obtain ⟨ts, ds⟩ := a
 have e : ts.setIfInBounds t (ts.getD t undef) = ts := by
  apply Array.ext_getElem?
  intro i
  by_cases hi : i = t
  · subst hi
    by_cases hs : i < ts.size
    · simp [hs]
    · simp [hs]
  · rw [Array.getElem?_setIfInBounds_ne (Ne.symm hi)]
 show (⟨ts.setIfInBounds t (ts.getD t undef), ds⟩ : Act) = ⟨ts, ds⟩
 rw [e]
theorem putAll_start (l : List Oper) (a : Act) : putAll (startV l a) l 0 a = a :=
 putAll_id _ l 0 a (fun i o h => by
  rw [Nat.zero_add]
  unfold startV
  rw [h]
  cases hd : o.dst with
  | none => rfl
  | some t => simp only [Option.bind_some, hd]; exact put_same a t)

/-- Does the operation wait for number j? -/
def depB (o : Oper) (j : Nat) : Bool := o.after.any fun e => Region.binds .any e && e.on == j
def edgesDown (l : List Oper) : Bool := (List.range l.length).all fun i => match l[i]? with | some o => o.after.all (fun e => !Region.binds .any e || decide (e.on < i)) | none => true
def unl (n : Nat) (listed : Array Bool) : Nat := ((List.range n).filter fun i => !listed.getD i true).length

section
variable {P : Program} {ops : Array Oper} {Q : Exit → Act → World → Prop}
theorem unl_set (n i : Nat) (listed : Array Bool) (hi : i < n) (h0 : listed.getD i true = false) : unl n (listed.setIfInBounds i true) < unl n listed := by
 have hs : i < listed.size := by
  rcases Nat.lt_or_ge i listed.size with h | h
  · exact h
  · rw [Array.getD_eq_getD_getElem?, Array.getElem?_eq_none h] at h0; cases h0
 unfold unl
 have key : ∀ (l : List Nat), (l.filter fun j => !(listed.setIfInBounds i true).getD j true).length + (if i ∈ l then 1 else 0) ≤ (l.filter fun j => !listed.getD j true).length := by
  intro l
  induction l with
  | nil => simp
  | cons j l ih =>
   rw [List.filter_cons, List.filter_cons]
   by_cases hji : j = i
   · subst hji
     have e1 : (listed.setIfInBounds j true).getD j true = true := by
      rw [Array.getD_eq_getD_getElem?]; simp [hs]
     rw [e1, h0, if_pos (List.mem_cons_self ..)]
     simp only [Bool.not_true, Bool.not_false, Bool.false_eq_true, if_false, if_true, List.length_cons]
     by_cases hl : j ∈ l
     · rw [if_pos hl] at ih; omega
     · rw [if_neg hl] at ih; omega
   · have e1 : (listed.setIfInBounds i true).getD j true = listed.getD j true := by
      rw [Array.getD_eq_getD_getElem?, Array.getD_eq_getD_getElem?, Array.getElem?_setIfInBounds_ne (Ne.symm hji)]
     rw [e1]
     have hm : (i ∈ j :: l) ↔ i ∈ l := by simp [Ne.symm hji]
     by_cases hl : i ∈ l
     · rw [if_pos hl] at ih
       rw [if_pos (hm.2 hl)]
       cases listed.getD j true
       · simp only [Bool.not_false, if_true, List.length_cons]; omega
       · simp only [Bool.not_true, Bool.false_eq_true, if_false]; omega
     · rw [if_neg hl] at ih
       rw [if_neg (fun h => hl (hm.1 h))]
       cases listed.getD j true
       · simp only [Bool.not_false, if_true, List.length_cons]; omega
       · simp only [Bool.not_true, Bool.false_eq_true, if_false]; omega
 have := key (List.range n)
 rw [if_pos (List.mem_range.2 hi)] at this
 omega
theorem all_listed (hE : edgesDown ops.toList = true) (listed : Array Bool) (h : Region.ready .any ops listed = []) : ∀ i, i < ops.size → listed.getD i true = true := by
 intro i
 induction i using Nat.strongRecOn with
 | ind i ih =>
  intro hi
  cases hc : listed.getD i true with
  | true => rfl
  | false =>
   exfalso
   have ho : ops[i]? = some ops[i] := Array.getElem?_eq_getElem hi
   have hm : i ∈ Region.ready .any ops listed := mem_ready.2 ⟨hc, ops[i], ho, fun e he hb => by
    unfold edgesDown at hE
    have h1 := List.all_eq_true.1 hE i (List.mem_range.2 (by simpa using hi))
    rw [Array.getElem?_toList, ho] at h1
    simp only at h1
    rw [Array.all_eq_true'] at h1
    have h2 := h1 e he
    rw [hb] at h2
    simp at h2
    have h3 := ih e.on h2 (by omega)
    have hsz : e.on < listed.size := by
     rcases Nat.lt_or_ge i listed.size with h' | h'
     · omega
     · rw [Array.getD_eq_getD_getElem?, Array.getElem?_eq_none h'] at hc; cases hc
    rw [Array.getD_eq_getD_getElem?, Array.getElem?_eq_getElem hsz] at h3 ⊢
    exact h3⟩
   rw [h] at hm
   cases hm

/-- One operation, whatever follows: it leaves a value of which p holds, in a world reached by Rel. -/
def StepR (P : Program) (ops : Array Oper) (Q : Exit → Act → World → Prop) (Rel : World → World → Prop) (p : Value → World → Prop) (i : Nat) (o : Oper) (a : Act) (w : World) : Prop :=
 ∀ K : Act → World → Prop, (∀ v w', Rel w w' → p v w' → K (a.put o.dst v) w') → wpOp P ops Q i K a w

/-- Nothing old has changed. -/
def RelB (x y : World) : Prop := Below x.heap.size x y
theorem RelB.refl (x : World) : RelB x x := Below.refl _ _
theorem RelB.trans {x y z : World} (h : RelB x y) (k : RelB y z) : RelB x z := Below.trans h (Below.mono k h.size)
def MonoB (p : Value → World → Prop) : Prop := ∀ v w w', p v w → RelB w w' → p v w'
theorem MonoB.eq (c : Value) : MonoB (fun v _ => v = c) := fun _ _ _ h _ => h
theorem MonoB.pure (q : Value → Prop) : MonoB (fun v _ => q v) := fun _ _ _ h _ => h
theorem MonoB.ints (k : IntKind) (n : Nat) (xs : List Int) : MonoB (fun v w => ∃ A c, v = .slice A n c ∧ Ints k w A xs) := fun _ _ _ ⟨A, c, h1, h2⟩ hR => ⟨A, c, h1, h2.below hR⟩
def StepsR (P : Program) (ops : Array Oper) (Q : Exit → Act → World → Prop) (Vs : List (Value → World → Prop)) (a0 : Act) (w0 : World) : List Oper → Nat → Prop
 | [], _ => True
 | o :: l, i => (∀ (us : Nat → Value) a w, a = putAll us ops.toList 0 a0 → RelB w0 w → (∀ (j : Nat) p, depB o j = true → Vs[j]? = some p → p (us j) w) → StepR P ops Q RelB (Vs.getD i (fun _ _ => True)) i o a w) ∧ StepsR P ops Q Vs a0 w0 l (i + 1)
theorem StepsR.at_ {Vs : List (Value → World → Prop)} {a0 : Act} {w0 : World} : ∀ (l : List Oper) (k : Nat), StepsR P ops Q Vs a0 w0 l k → ∀ i o, l[i]? = some o →
 ∀ (us : Nat → Value) w, RelB w0 w → (∀ (j : Nat) p, depB o j = true → Vs[j]? = some p → p (us j) w) → StepR P ops Q RelB (Vs.getD (k + i) (fun _ _ => True)) (k + i) o (putAll us ops.toList 0 a0) w
 | [], _, _, _, _, h => by simp at h
 | o' :: l, k, hs, i, o, h => by
  cases i with
  | zero => simp at h; subst h; exact fun us w hR hd => hs.1 us _ w rfl hR hd
  | succ i =>
   simp at h
   have := StepsR.at_ l (k + 1) hs.2 i o h
   rwa [show k + 1 + i = k + (i + 1) by omega] at this
theorem wanted_guard {o : Oper} {tm : Array Value} {g t : Nat} {b : Bool} {v : Value} (hg : o.guard = some (g, b)) (hd : (ops[g]?).bind (·.dst) = some t) (ht : tm[t]? = some v) (hv : v = .bool b) : Region.wanted o (yielded ops tm) = true := by
 subst hv
 simp [Region.wanted, yielded, hg, hd, ht]
theorem StepR.pure {Rel : World → World → Prop} {p : Value → World → Prop} {i : Nat} {o : Oper} {a : Act} {w : World} {v : Value} (ho : ops[i]? = some o) (hg : Region.wanted o (yielded ops a.tmps) = true)
 (he : (execOp a.eval o).run P w = .ok (.value v) w) (hR : Rel w w) (hp : p v w) : StepR P ops Q Rel p i o a w := fun K hK => by
 unfold wpOp
 simp only [ho, hg, if_true]
 exact .inl (by unfold Oper.wp; rw [he]; exact hK v w hR hp)
theorem StepR.call {Rel : World → World → Prop} {p : Value → World → Prop} {i : Nat} {o : Oper} {a : Act} {w : World} {f : FuncId} {args : Array Value} (ho : ops[i]? = some o) (hg : Region.wanted o (yielded ops a.tmps) = true)
 (he : (execOp a.eval o).run P w = .ok (.enter f args) w) (hc : Calls P f args w fun e w' => ∃ v, e = .returned v ∧ Rel w w' ∧ p v w') : StepR P ops Q Rel p i o a w := fun K hK => by
 unfold wpOp
 simp only [ho, hg, if_true]
 refine .inl ?_
 unfold Oper.wp
 rw [he]
 exact Calls.mono hc (fun e w' ⟨v, h1, h2, h3⟩ => by subst h1; exact hK v w' h2 h3)
end
end Go.Proofs.YtihanglnjghcfaaGreatDoor
namespace Go.Proofs.YtihanglnjghcfaaGreatDoor
open Go.RowKit
set_option linter.unusedVariables false

section
variable {P : Program} {ops : Array Oper} {Q : Exit → Act → World → Prop}
theorem wpAny_inv (J : Array Bool → (Nat → Value) → World → Prop) (hd : distinct ops.toList = true) (hE : edgesDown ops.toList = true) (a0 : Act)
 (step : ∀ listed us w i o, listed.size = ops.size → J listed us w → ops[i]? = some o → listed.getD i true = false → (∀ j, depB o j = true → listed.getD j true = true) → ∀ K : Act → World → Prop,
  (∀ v w', J (listed.setIfInBounds i true) (upd us i v) w' → K ((putAll us ops.toList 0 a0).put o.dst v) w') → wpOp P ops Q i K (putAll us ops.toList 0 a0) w)
 (done : ∀ listed us w, listed.size = ops.size → J listed us w → (∀ i, i < ops.size → listed.getD i true = true) → Q .normal (putAll us ops.toList 0 a0) w) :
 ∀ (fuel : Nat) (listed : Array Bool) (us : Nat → Value) (w : World), unl ops.size listed ≤ fuel → J listed us w → listed.size = ops.size → wpAny P .any ops Q fuel listed (putAll us ops.toList 0 a0) w := by
 intro fuel
 induction fuel with
 | zero =>
  intro listed us w hf hJ hs
  have hr : Region.ready .any ops listed = [] := by
   cases hc : Region.ready .any ops listed with
   | nil => rfl
   | cons i r =>
    exfalso
    have hm : i ∈ Region.ready .any ops listed := by rw [hc]; simp
    obtain ⟨h0, o, ho, _⟩ := mem_ready.1 hm
    have hi : i < ops.size := (Array.getElem?_eq_some_iff.1 ho).1
    have := unl_set ops.size i listed hi h0
    omega
  exact ⟨hr, done listed us w hs hJ (all_listed hE listed hr)⟩
 | succ fuel ih =>
  intro listed us w hf hJ hs
  refine ⟨fun hr => done listed us w hs hJ (all_listed hE listed hr), fun i hi => ?_⟩
  obtain ⟨h0, o, ho, hall⟩ := mem_ready.1 hi
  have hil : i < ops.size := (Array.getElem?_eq_some_iff.1 ho).1
  refine step listed us w i o hs hJ ho h0 (fun j hj => ?_) _ (fun v w' hJ' => ?_)
  · unfold depB at hj
    rw [Array.any_eq_true'] at hj
    obtain ⟨e, he, hb⟩ := hj
    rw [Bool.and_eq_true] at hb
    have hon : e.on = j := by simpa using hb.2
    subst hon
    have h1 := hall e he hb.1
    have hsz : e.on < listed.size := by
     rcases Nat.lt_or_ge e.on listed.size with h' | h'
     · exact h'
     · rw [Array.getD_eq_getD_getElem?, Array.getElem?_eq_none h'] at h1; cases h1
    rw [Array.getD_eq_getD_getElem?, Array.getElem?_eq_getElem hsz] at h1 ⊢
    exact h1
  · rw [putAll_put us ops.toList 0 a0 i o v hd (by rw [Array.getElem?_toList]; exact ho), Nat.zero_add]
    refine ih _ _ w' ?_ hJ' (by simpa using hs)
    have := unl_set ops.size i listed hil h0
    omega
end

/-- What an operation waits for, as bits. -/
def depMask (o : Oper) : Nat := o.after.foldl (fun m e => if Region.binds .any e then m ||| (1 <<< e.on) else m) 0
def ancM (l : List Oper) : Nat → Nat → Nat
 | 0, m => m
 | j + 1, m => ancM l j (if m.testBit j then (match l[j]? with | some o => m ||| depMask o | none => m) else m)
theorem depMask_bit {o : Oper} {i : Nat} (h : (depMask o).testBit i = true) : depB o i = true := by
 have key : ∀ (es : List Edge) (m : Nat), (es.foldl (fun m e => if Region.binds .any e then m ||| (1 <<< e.on) else m) m).testBit i = true → m.testBit i = true ∨ es.any (fun e => Region.binds .any e && e.on == i) = true := by
  intro es
  induction es with
  | nil => intro m h; exact .inl h
  | cons e es ih =>
   intro m h
   rw [List.foldl_cons] at h
   rcases ih _ h with h1 | h1
   · by_cases hb : Region.binds .any e = true
     · rw [if_pos hb, Nat.testBit_or, Bool.or_eq_true] at h1
       rcases h1 with h1 | h1
       · exact .inl h1
       · right
         have he : e.on = i := by
          rw [Nat.testBit_shiftLeft, Bool.and_eq_true] at h1
          obtain ⟨h2, h3⟩ := h1
          have h4 : i - e.on = 0 := Nat.testBit_one_eq_true_iff_self_eq_zero.1 h3
          have : e.on ≤ i := by simpa using h2
          omega
         simp [hb, he]
     · rw [if_neg hb] at h1; exact .inl h1
   · right; simp [h1]
 have hk := key o.after.toList 0 (by rw [Array.foldl_toList]; exact h)
 rcases hk with h1 | h1
 · simp at h1
 · unfold depB; rw [← Array.any_toList]; exact h1
theorem ancM_closed {l : List Oper} {D : Nat → Prop} (hD : ∀ j o, l[j]? = some o → D j → ∀ i, depB o i = true → D i) : ∀ (n m : Nat), (∀ i, m.testBit i = true → D i) → ∀ i, (ancM l n m).testBit i = true → D i
 | 0, m, hm, i, h => hm i h
 | n + 1, m, hm, i, h => by
  refine ancM_closed hD n _ ?_ i h
  intro i' h'
  by_cases hb : m.testBit n = true
  · rw [if_pos hb] at h'
    cases ho : l[n]? with
    | none => rw [ho] at h'; exact hm i' h'
    | some o =>
     rw [ho] at h'
     simp only [Nat.testBit_or, Bool.or_eq_true] at h'
     rcases h' with h' | h'
     · exact hm i' h'
     · exact hD n o ho (hm n hb) i' (depMask_bit h')
  · rw [if_neg hb] at h'; exact hm i' h'
/-- Does the operation p wait for number i, through others too? -/
def waitB (l : List Oper) (p i : Nat) : Bool := (ancM l l.length (1 <<< p)).testBit i
theorem waitB_closed {l : List Oper} {D : Nat → Prop} (hD : ∀ j o, l[j]? = some o → D j → ∀ i, depB o i = true → D i) {p i : Nat} (hp : D p) (h : waitB l p i = true) : D i := by
 refine ancM_closed hD l.length (1 <<< p) (fun j hj => ?_) i h
 rw [Nat.testBit_shiftLeft, Bool.and_eq_true] at hj
 have h4 : j - p = 0 := Nat.testBit_one_eq_true_iff_self_eq_zero.1 hj.2
 have h5 : p ≤ j := by simpa using hj.1
 have : j = p := by omega
 subst this
 exact hp
/-- Each phase waits for the one ahead of it. -/
def chainB (l : List Oper) : List Nat → Bool
 | p :: q :: r => waitB l q p && chainB l (q :: r)
 | _ => true
/-- The phases of an operation that is none: from lo to hi. -/
def spanB (l : List Oper) (ph : List Nat) (i lo hi : Nat) : Bool :=
 decide (hi ≤ ph.length) && (match lo with | 0 => true | k + 1 => (match ph[k]? with | some p => waitB l i p | none => false)) && (match ph[hi]? with | some p => waitB l p i | none => true)
/-- phase: which phase it is; span: in which phases it may come. -/
inductive Tag where
 | phase (k : Nat)
 | span (lo hi : Nat)
def tagB (l : List Oper) (ph : List Nat) (i : Nat) : Tag → Bool
 | .phase k => ph[k]? == some i
 | .span lo hi => spanB l ph i lo hi && !ph.contains i
def tagsB (l : List Oper) (ph : List Nat) : List Tag → Nat → Bool
 | [], _ => true
 | t :: ts, i => tagB l ph i t && tagsB l ph ts (i + 1)
theorem tagsB_at {l : List Oper} {ph : List Nat} : ∀ {ts : List Tag} {k : Nat}, tagsB l ph ts k = true → ∀ i t, ts[i]? = some t → tagB l ph (k + i) t = true
 | [], _, _, _, _, h => by simp at h
 | t' :: ts, k, hb, i, t, h => by
  rw [tagsB, Bool.and_eq_true] at hb
  cases i with
  | zero => simp at h; subst h; exact hb.1
  | succ i =>
   have := tagsB_at hb.2 i t (by simpa using h)
   rwa [show k + 1 + i = k + (i + 1) by omega] at this

section
variable (P : Program) (ops : Array Oper) (Q : Exit → Act → World → Prop)
/-- One operation, whatever follows: it leaves a value and a world of which p holds. -/
def StepI (p : Value → World → Prop) (i : Nat) (o : Oper) (a : Act) (w : World) : Prop :=
 ∀ K : Act → World → Prop, (∀ v w', p v w' → K (a.put o.dst v) w') → wpOp P ops Q i K a w
def DepsI (Vs : List (Value → Prop)) (o : Oper) (us : Nat → Value) : Prop := ∀ (j : Nat) p, depB o j = true → Vs[j]? = some p → p (us j)
def StepT (ph : List Nat) (Vs : List (Value → Prop)) (I : List Value → World → Prop) (a0 : Act) (i : Nat) (o : Oper) : Tag → Prop
 | .phase k => ∀ (us : Nat → Value) a w, a = putAll us ops.toList 0 a0 → DepsI Vs o us → (∀ j, j < ops.toList.length → waitB ops.toList j i = true → us j = startV ops.toList a0 j) → I ((ph.take k).map us) w →
  StepI P ops Q (fun v w' => (Vs.getD i (fun _ => True)) v ∧ I ((ph.take k).map us ++ [v]) w') i o a w
 | .span lo hi => ∀ (us : Nat → Value) a w k, lo ≤ k → k ≤ hi → a = putAll us ops.toList 0 a0 → DepsI Vs o us → (∀ j, j < ops.toList.length → waitB ops.toList j i = true → us j = startV ops.toList a0 j) → I ((ph.take k).map us) w →
  StepI P ops Q (fun v w' => (Vs.getD i (fun _ => True)) v ∧ I ((ph.take k).map us) w') i o a w
def StepsT (ph : List Nat) (Vs : List (Value → Prop)) (I : List Value → World → Prop) (a0 : Act) : List Oper → List Tag → Nat → Prop
 | o :: l, t :: ts, i => StepT P ops Q ph Vs I a0 i o t ∧ StepsT ph Vs I a0 l ts (i + 1)
 | _, _, _ => True
end
section
variable {P : Program} {ops : Array Oper} {Q : Exit → Act → World → Prop}
theorem StepsT.at_ {ph : List Nat} {Vs : List (Value → Prop)} {I : List Value → World → Prop} {a0 : Act} : ∀ (l : List Oper) (ts : List Tag) (k : Nat), StepsT P ops Q ph Vs I a0 l ts k → ∀ i o t, l[i]? = some o → ts[i]? = some t → StepT P ops Q ph Vs I a0 (k + i) o t
 | [], _, _, _, _, _, _, h, _ => by simp at h
 | _ :: _, [], _, _, _, _, _, _, h => by simp at h
 | o' :: l, t' :: ts, k, hs, i, o, t, h, h' => by
  cases i with
  | zero => simp at h h'; subst h; subst h'; exact hs.1
  | succ i =>
   have := StepsT.at_ l ts (k + 1) hs.2 i o t (by simpa using h) (by simpa using h')
   rwa [show k + 1 + i = k + (i + 1) by omega] at this
/-- All that is done stands in front. -/
structure PhJ (l : List Oper) (ph : List Nat) (Vs : List (Value → Prop)) (I : List Value → World → Prop) (a0 : Act) (k : Nat) (listed : Array Bool) (us : Nat → Value) (w : World) : Prop where
 le : k ≤ ph.length
 on : ∀ x p, x < k → ph[x]? = some p → listed.getD p true = true
 off : ∀ x p, k ≤ x → ph[x]? = some p → listed.getD p true = false
 inv : I ((ph.take k).map us) w
 val : ∀ j p, Vs[j]? = some p → listed.getD j true = true → p (us j)
 closed : ∀ j o, l[j]? = some o → listed.getD j true = true → ∀ i, depB o i = true → listed.getD i true = true
 start : ∀ j, listed.getD j true = false → us j = startV l a0 j
theorem map_upd {us : Nat → Value} {i : Nat} {v : Value} : ∀ (l : List Nat), i ∉ l → l.map (upd us i v) = l.map us
 | [], _ => rfl
 | j :: l, h => by
  rw [List.map_cons, List.map_cons, map_upd l (fun h' => h (by simp [h']))]
  congr 1
  unfold upd
  rw [if_neg (fun e => h (by simp [e]))]
theorem chain_wait {l : List Oper} {D : Nat → Prop} (hD : ∀ j o, l[j]? = some o → D j → ∀ i, depB o i = true → D i) : ∀ (ph : List Nat) (x : Nat) (p q : Nat), chainB l ph = true → ph[x]? = some p → ph[x + 1]? = some q → D q → D p
 | [], _, _, _, _, h, _, _ => by simp at h
 | [_], x, _, _, _, _, h, _ => by simp at h
 | a :: b :: r, 0, p, q, hc, h1, h2, hq => by
  simp at h1 h2
  subst h1; subst h2
  rw [chainB, Bool.and_eq_true] at hc
  exact waitB_closed hD hq hc.1
 | a :: b :: r, x + 1, p, q, hc, h1, h2, hq => by
  rw [chainB, Bool.and_eq_true] at hc
  exact chain_wait hD (b :: r) x p q hc.2 (by simpa using h1) (by simpa using h2) hq
theorem chain_down {l : List Oper} {D : Nat → Prop} (hD : ∀ j o, l[j]? = some o → D j → ∀ i, depB o i = true → D i) {ph : List Nat} (hc : chainB l ph = true) : ∀ (d x : Nat) (p q : Nat), ph[x]? = some p → ph[x + d]? = some q → D q → D p
 | 0, x, p, q, h1, h2, hq => by
  rw [Nat.add_zero, h1] at h2
  injection h2 with h2
  subst h2; exact hq
 | d + 1, x, p, q, h1, h2, hq => by
  have hlt : x + d + 1 < ph.length := by rw [← Nat.add_assoc] at h2; exact (List.getElem?_eq_some_iff.1 h2).1
  have h3 : ph[x + d]? = some ph[x + d] := List.getElem?_eq_getElem (by omega)
  refine chain_down hD hc d x p _ h1 h3 (chain_wait hD ph (x + d) _ q hc h3 (by rw [← Nat.add_assoc] at h2; exact h2) hq)
/-- The law. -/
theorem wp_region_ph {id : Nat} {l : List Oper} {a0 : Act} {w0 : World} (hm : P.follows .mixedOrders = true) (ph : List Nat) (tags : List Tag) (Vs : List (Value → Prop)) (I : List Value → World → Prop)
 (hd : distinct l = true) (hE : edgesDown l = true) (hc : chainB l ph = true) (ht : tagsB l ph tags 0 = true) (hn : ph.all (fun p => decide (p < l.length)) = true) (hu : decide ph.Nodup = true) (hl : tags.length = l.length) (hv : Vs.length = l.length) (h0 : I [] w0.drew)
 (steps : StepsT P l.toArray Q ph Vs I a0 l tags 0)
 (done : ∀ (us : Nat → Value) w, I (ph.map us) w → (∀ (j : Nat) p, j < l.length → Vs[j]? = some p → p (us j)) → Q .normal (putAll us l 0 a0) w) : (Code.region id l.toArray true).wp P Q a0 w0 := by
 refine wp_region_any hm ?_
 have hnod : ph.Nodup := of_decide_eq_true hu
 have hlt : ∀ x p, ph[x]? = some p → p < l.length := fun x p h => by
  have := List.all_eq_true.1 hn p (List.mem_of_getElem? h)
  simpa using this
 have h := wpAny_inv (P := P) (ops := l.toArray) (Q := Q) (fun listed us w => ∃ k, PhJ l ph Vs I a0 k listed us w) hd hE a0
  (by
   intro listed us w i o hs ⟨k, hJ⟩ ho h0 hdeps K hK
   have hil : i < l.length := by simpa using (Array.getElem?_eq_some_iff.1 ho).1
   have hol : l[i]? = some o := by simpa using ho
   have hsz : listed.size = l.length := by simpa using hs
   obtain ⟨t, htg⟩ : ∃ t, tags[i]? = some t := ⟨tags[i]'(by omega), List.getElem?_eq_getElem (by omega)⟩
   have hst := StepsT.at_ l tags 0 steps i o _ hol htg
   have htb := tagsB_at ht i _ htg
   rw [Nat.zero_add] at hst htb
   have hdep : DepsI Vs o us := fun j p hj hp => hJ.val j p hp (hdeps j hj)
   have hset : ∀ j, (listed.setIfInBounds i true).getD j true = if j = i then true else listed.getD j true := fun j => by
    by_cases hji : j = i
    · subst hji
      rw [if_pos rfl, Array.getD_eq_getD_getElem?]
      simp [show j < listed.size by omega]
    · rw [if_neg hji, Array.getD_eq_getD_getElem?, Array.getElem?_setIfInBounds_ne (Ne.symm hji), ← Array.getD_eq_getD_getElem?]
   have hval : ∀ v, (Vs.getD i (fun _ => True)) v → ∀ j p, Vs[j]? = some p → (listed.setIfInBounds i true).getD j true = true → p (upd us i v j) := by
    intro v hv j p hp hj
    by_cases hji : j = i
    · subst hji
      rw [List.getD_eq_getElem?_getD, hp] at hv
      rw [show upd us j v j = v by simp [upd]]
      exact hv
    · rw [hset, if_neg hji] at hj
      rw [show upd us i v j = us j by unfold upd; rw [if_neg hji]]
      exact hJ.val j p hp hj
   have hcl : ∀ j o', l[j]? = some o' → (listed.setIfInBounds i true).getD j true = true → ∀ i', depB o' i' = true → (listed.setIfInBounds i true).getD i' true = true := by
    intro j o' ho' hj i' hi'
    rw [hset]
    by_cases hii : i' = i
    · rw [if_pos hii]
    · rw [if_neg hii]
      by_cases hji : j = i
      · subst hji
        rw [hol] at ho'
        injection ho' with ho'
        subst ho'
        exact hdeps i' hi'
      · rw [hset, if_neg hji] at hj
        exact hJ.closed j o' ho' hj i' hi'
   have hstart : ∀ j, j < l.toArray.toList.length → waitB l.toArray.toList j i = true → us j = startV l.toArray.toList a0 j := by
    intro j hj hw
    refine hJ.start j ?_
    cases hlj : listed.getD j true with
    | false => rfl
    | true =>
     have := waitB_closed (D := fun j => listed.getD j true = true) hJ.closed hlj hw
     rw [h0] at this; cases this
   have hst' : ∀ v, ∀ j, (listed.setIfInBounds i true).getD j true = false → upd us i v j = startV l a0 j := by
    intro v j hj
    rw [hset] at hj
    by_cases hji : j = i
    · rw [if_pos hji] at hj; cases hj
    · rw [if_neg hji] at hj
      rw [show upd us i v j = us j by unfold upd; rw [if_neg hji]]
      exact hJ.start j hj
   cases t with
   | phase x =>
    have hx : ph[x]? = some i := by simpa [tagB] using htb
    have hxl : x < ph.length := (List.getElem?_eq_some_iff.1 hx).1
    have hkx : k = x := by
     rcases Nat.lt_trichotomy k x with h1 | h1 | h1
     · exfalso
       have hp : ph[k]? = some ph[k] := List.getElem?_eq_getElem (by omega)
       have h2 := hJ.off k _ (Nat.le_refl _) hp
       -- the phase at k waits to be done: but what waits for it is ready
       have hx' : ph[x - 1]? = some ph[x - 1] := List.getElem?_eq_getElem (by omega)
       have h3 : ∀ i', depB o i' = true → listed.getD i' true = true := hdeps
       -- D: listed, or number i itself
       have hD : ∀ j o', l[j]? = some o' → (listed.getD j true = true ∨ j = i) → ∀ i', depB o' i' = true → (listed.getD i' true = true ∨ i' = i) := by
        intro j o' ho' hj i' hi'
        rcases hj with hj | rfl
        · exact .inl (hJ.closed j o' ho' hj i' hi')
        · rw [hol] at ho'
          injection ho' with ho'
          subst ho'
          exact .inl (hdeps i' hi')
       have h4 := chain_down (D := fun j => listed.getD j true = true ∨ j = i) hD hc (x - k) k _ i hp (by rw [show k + (x - k) = x by omega]; exact hx) (.inr rfl)
       rcases h4 with h4 | h4
       · rw [h2] at h4; cases h4
       · have := ((List.getElem?_inj (by omega) hnod).1 (hp.trans (by rw [h4]; exact hx.symm)))
         omega
     · exact h1
     · exfalso
       have := hJ.on x i h1 hx
       rw [h0] at this; cases this
    subst hkx
    refine hst us _ w rfl hdep hstart hJ.inv K (fun v w' hv => hK v w' ⟨k + 1, ?_⟩)
    have hni : i ∉ ph.take k := fun hm => by
     obtain ⟨y, hy⟩ := List.mem_iff_getElem?.1 hm
     rw [List.getElem?_take] at hy
     split at hy
     · rename_i hyk
       have := hJ.on y i hyk hy
       rw [h0] at this; cases this
     · cases hy
    refine ⟨hxl, ?_, ?_, ?_, hval v hv.1, hcl, hst' v⟩
    · intro y p hy hp
      rw [hset]
      by_cases hpi : p = i
      · rw [if_pos hpi]
      · rw [if_neg hpi]
        have : y ≠ k := fun e => hpi (by rw [e, hx] at hp; injection hp with hp; exact hp.symm)
        exact hJ.on y p (by omega) hp
    · intro y p hy hp
      rw [hset, if_neg]
      · exact hJ.off y p (by omega) hp
      · intro e
        have := ((List.getElem?_inj hxl hnod).1 (hx.trans (by rw [← e]; exact hp.symm)))
        omega
    · rw [List.take_add_one, hx]
      simp only [Option.toList_some, List.map_append, List.map_cons, List.map_nil]
      rw [map_upd _ hni, show upd us i v i = v by simp [upd]]
      exact hv.2
   | span lo hi =>
    have htb' : spanB l ph i lo hi = true ∧ ¬ i ∈ ph := by simpa [tagB] using htb
    obtain ⟨hsp, hni⟩ := htb'
    unfold spanB at hsp
    simp only [Bool.and_eq_true, decide_eq_true_eq] at hsp
    obtain ⟨⟨hhi, hlo⟩, hup⟩ := hsp
    have hD : ∀ j o', l[j]? = some o' → (listed.getD j true = true ∨ j = i) → ∀ i', depB o' i' = true → (listed.getD i' true = true ∨ i' = i) := by
     intro j o' ho' hj i' hi'
     rcases hj with hj | rfl
     · exact .inl (hJ.closed j o' ho' hj i' hi')
     · rw [hol] at ho'
       injection ho' with ho'
       subst ho'
       exact .inl (hdeps i' hi')
    have h1 : lo ≤ k := by
     cases lo with
     | zero => exact Nat.zero_le _
     | succ y =>
      simp only at hlo
      cases hp : ph[y]? with
      | none => rw [hp] at hlo; cases hlo
      | some p =>
       rw [hp] at hlo
       simp only at hlo
       have h2 := waitB_closed (D := fun j => listed.getD j true = true ∨ j = i) hD (.inr rfl) hlo
       have h3 : listed.getD p true = true := by
        rcases h2 with h2 | h2
        · exact h2
        · exact absurd (List.mem_of_getElem? (by rw [← h2]; exact hp)) hni
       rcases Nat.lt_or_ge y k with h4 | h4
       · exact h4
       · have := hJ.off y p h4 hp
         rw [h3] at this; cases this
    have h2 : k ≤ hi := by
     rcases Nat.lt_or_ge hi k with h4 | h4
     · exfalso
       have hhl : hi < ph.length := by have := hJ.le; omega
       have hp : ph[hi]? = some ph[hi] := List.getElem?_eq_getElem hhl
       rw [hp] at hup
       simp only at hup
       have h5 := waitB_closed (D := fun j => listed.getD j true = true) hJ.closed (hJ.on hi _ h4 hp) hup
       rw [h0] at h5; cases h5
     · exact h4
    refine hst us _ w k h1 h2 rfl hdep hstart hJ.inv K (fun v w' hv => hK v w' ⟨k, ?_⟩)
    have hni' : i ∉ ph.take k := fun hm => hni (List.mem_of_mem_take hm)
    refine ⟨hJ.le, ?_, ?_, by rw [map_upd _ hni']; exact hv.2, hval v hv.1, hcl, hst' v⟩
    · intro y p hy hp
      rw [hset]
      by_cases hpi : p = i
      · rw [if_pos hpi]
      · rw [if_neg hpi]; exact hJ.on y p hy hp
    · intro y p hy hp
      rw [hset, if_neg (fun e => hni (by rw [← e]; exact List.mem_of_getElem? hp))]
      exact hJ.off y p hy hp)
  (by
   intro listed us w hs ⟨k, hJ⟩ hall
   have hk : k = ph.length := by
    rcases Nat.lt_or_ge k ph.length with h1 | h1
    · exfalso
      have hp : ph[k]? = some ph[k] := List.getElem?_eq_getElem h1
      have h2 := hJ.off k _ (Nat.le_refl _) hp
      rw [hall _ (by have := hlt k _ hp; simpa using this)] at h2
      cases h2
    · have := hJ.le; omega
   have hi := hJ.inv
   rw [hk, List.take_length] at hi
   exact done us w hi (fun j p hj hp => hJ.val j p hp (hall j (by simpa using hj))))
  l.toArray.size (Array.replicate l.toArray.size false) (startV l a0) w0.drew
  (by unfold unl; exact Nat.le_trans (List.length_filter_le _ _) (by simp))
  ⟨0, ⟨Nat.zero_le _, fun x p h => by omega, fun x p _ hp => by
   rw [Array.getD_eq_getD_getElem?]
   have := hlt x p hp
   simp [this], h0, fun j p hp hj => by
   rw [Array.getD_eq_getD_getElem?] at hj
   have hjl : j < l.length := by rw [← hv]; exact (List.getElem?_eq_some_iff.1 hp).1
   simp [hjl] at hj, fun j o ho hj => by
   rw [Array.getD_eq_getD_getElem?] at hj
   have : j < l.length := (List.getElem?_eq_some_iff.1 ho).1
   simp [this] at hj, fun j _ => rfl⟩⟩ (by simp)
 rw [show l.toArray.toList = l from rfl, putAll_start] at h
 exact h
theorem put_getD (a : Act) (d : Tmp) (v : Value) (t : Tmp) : (a.put (some d) v).tmps.getD t undef = if d = t ∧ t < a.tmps.size then v else a.tmps.getD t undef := by
 show (a.tmps.setIfInBounds d v).getD t undef = _
 rw [Array.getD_eq_getD_getElem?, Array.getD_eq_getD_getElem?]
 by_cases hdt : d = t
 · subst hdt
   by_cases hs : d < a.tmps.size
   · rw [if_pos ⟨rfl, hs⟩, Array.getElem?_setIfInBounds_self_of_lt hs]; rfl
   · rw [if_neg (fun h => hs h.2), Array.getElem?_eq_none (show (a.tmps.setIfInBounds d v).size ≤ d by rw [Array.size_setIfInBounds]; exact Nat.le_of_not_lt hs), Array.getElem?_eq_none (show a.tmps.size ≤ d from Nat.le_of_not_lt hs)]
 · rw [if_neg (fun h => hdt h.1), Array.getElem?_setIfInBounds_ne hdt]
theorem put_size (a : Act) (d : Option Tmp) (v : Value) : (a.put d v).tmps.size = a.tmps.size := by
 cases d with
 | none => rfl
 | some d => exact Array.size_setIfInBounds
theorem putAll_getD_far {us : Nat → Value} {t : Tmp} : ∀ (l : List Oper) (k : Nat) (a : Act), l.all (fun o => o.dst != some t) = true → (putAll us l k a).tmps.getD t undef = a.tmps.getD t undef
 | [], _, _, _ => rfl
 | o :: l, k, a, h => by
  rw [List.all_cons, Bool.and_eq_true] at h
  rw [putAll, putAll_getD_far l (k + 1) _ h.2]
  cases hd : o.dst with
  | none => rfl
  | some d =>
   rw [put_getD, if_neg]
   rintro ⟨h1, _⟩
   rw [hd, h1] at h
   simp at h
theorem putAll_getD_at {us : Nat → Value} {t : Tmp} : ∀ (l : List Oper) (k i : Nat) (a : Act), distinct l = true → (l[i]?).bind (·.dst) = some t → t < a.tmps.size → (putAll us l k a).tmps.getD t undef = us (k + i)
 | [], _, _, _, _, h, _ => by simp at h
 | o :: l, k, 0, a, hd, h, ht => by
  have h : o.dst = some t := by simpa using h
  rw [distinct, Bool.and_eq_true, h] at hd
  rw [putAll, putAll_getD_far l (k + 1) _ (by simpa using hd.1), h, put_getD, if_pos ⟨rfl, ht⟩, Nat.add_zero]
 | o :: l, k, i + 1, a, hd, h, ht => by
  rw [distinct, Bool.and_eq_true] at hd
  rw [putAll, putAll_getD_at l (k + 1) i _ hd.2 (by simpa using h) (by rw [put_size]; exact ht), show k + 1 + i = k + (i + 1) by omega]
/-- What a slot reads behind some of the operations: what an operation has left, or what the frame holds. -/
theorem slot_at {us : Nat → Value} {l : List Oper} {a0 au : Act} {t : Tmp} {v : Value} (i : Nat) (ha : au = putAll us l 0 a0) (hd : distinct l = true) (h : (l[i]?).bind (·.dst) = some t) (ht : decide (t < a0.tmps.size) = true) (hv : us i = v) : au.eval (.tmp t) = v := by
 subst ha
 show (putAll us l 0 a0).tmps.getD t undef = v
 rw [putAll_getD_at l 0 i a0 hd h (of_decide_eq_true ht), Nat.zero_add, hv]
theorem slot_far {us : Nat → Value} {l : List Oper} {a0 au : Act} {t : Tmp} {v : Value} (ha : au = putAll us l 0 a0) (h : l.all (fun o => o.dst != some t) = true) (hv : a0.tmps[t]? = some v) : au.eval (.tmp t) = v := by
 subst ha
 show (putAll us l 0 a0).tmps.getD t undef = v
 rw [putAll_getD_far l 0 a0 h, Array.getD_eq_getD_getElem?, hv]; rfl
theorem slot_norm {au : Act} {t : Tmp} {v : Value} (h : au.eval (.tmp t) = v) : au.tmps[t]?.getD undef = v := by
 have h : au.tmps.getD t undef = v := h
 rwa [Array.getD_eq_getD_getElem?] at h
theorem unwanted_at {ops : Array Oper} {o : Oper} {au : Act} {g t : Nat} {b b' : Bool} (hg : o.guard = some (g, b)) (hd : (ops[g]?).bind (·.dst) = some t) (h : au.eval (.tmp t) = .bool b') (hb : (b' == b) = false) : Region.wanted o (yielded ops au.tmps) = false := by
 have h : au.tmps.getD t undef = .bool b' := h
 rw [Array.getD_eq_getD_getElem?] at h
 cases hx : au.tmps[t]? with
 | none => rw [hx] at h; exact absurd h (by intro h'; cases h')
 | some v =>
  rw [hx] at h
  have h : v = .bool b' := h
  subst h
  cases b <;> cases b' <;> simp_all [Region.wanted, yielded]
theorem unwanted_undef {ops : Array Oper} {o : Oper} {au : Act} {g t : Nat} {b : Bool} (hg : o.guard = some (g, b)) (hd : (ops[g]?).bind (·.dst) = some t) (h : au.eval (.tmp t) = undef) : Region.wanted o (yielded ops au.tmps) = false := by
 have h : au.tmps.getD t undef = undef := h
 rw [Array.getD_eq_getD_getElem?] at h
 unfold Region.wanted
 rw [hg]
 simp only [yielded, hd, Option.bind_some]
 cases hx : au.tmps[t]? with
 | none => rfl
 | some v =>
  rw [hx] at h
  have h : v = undef := h
  subst h
  rfl
theorem wanted_at {ops : Array Oper} {o : Oper} {au : Act} {g t : Nat} {b : Bool} (hg : o.guard = some (g, b)) (hd : (ops[g]?).bind (·.dst) = some t) (h : au.eval (.tmp t) = .bool b) : Region.wanted o (yielded ops au.tmps) = true := by
 have h : au.tmps.getD t undef = .bool b := h
 rw [Array.getD_eq_getD_getElem?] at h
 cases hx : au.tmps[t]? with
 | none => rw [hx] at h; exact absurd h (by intro h'; cases h')
 | some v => rw [hx] at h; exact wanted_guard hg hd hx h
/-- An operation that leaves the world alone. -/
theorem StepI.pure {p : Value → World → Prop} {i : Nat} {o : Oper} {a : Act} {w : World} {v : Value} (ho : ops[i]? = some o) (hg : Region.wanted o (yielded ops a.tmps) = true)
 (he : (execOp a.eval o).run P w = .ok (.value v) w) (hp : p v w) : StepI P ops Q p i o a w := fun K hK => by
 unfold wpOp
 simp only [ho, hg, if_true]
 exact .inl (by unfold Oper.wp; rw [he]; exact hK v w hp)
theorem StepI.skip {p : Value → World → Prop} {i : Nat} {o : Oper} {a : Act} {w : World} (ho : ops[i]? = some o) (hg : Region.wanted o (yielded ops a.tmps) = false) (hp : p undef w) : StepI P ops Q p i o a w := fun K hK => by
 unfold wpOp
 simp only [ho, hg]
 exact hK undef w hp
theorem StepI.runs {p : Value → World → Prop} {i : Nat} {o : Oper} {a : Act} {w w' : World} {v : Value} (ho : ops[i]? = some o) (hg : Region.wanted o (yielded ops a.tmps) = true)
 (he : (execOp a.eval o).run P w = .ok (.value v) w') (hp : p v w') : StepI P ops Q p i o a w := fun K hK => by
 unfold wpOp
 simp only [ho, hg, if_true]
 exact .inl (by unfold Oper.wp; rw [he]; exact hK v w' hp)
theorem StepI.call {p : Value → World → Prop} {i : Nat} {o : Oper} {a : Act} {w : World} {f : FuncId} {args : Array Value} (ho : ops[i]? = some o) (hg : Region.wanted o (yielded ops a.tmps) = true)
 (he : (execOp a.eval o).run P w = .ok (.enter f args) w) (hc : Calls P f args w fun e w' => ∃ v, e = .returned v ∧ p v w') : StepI P ops Q p i o a w := fun K hK => by
 unfold wpOp
 simp only [ho, hg, if_true]
 refine .inl ?_
 unfold Oper.wp
 rw [he]
 exact Calls.mono hc (fun e w' ⟨v, h1, h2⟩ => by subst h1; exact hK v w' h2)
/-- A store. -/
theorem StepI.stored {p : Value → World → Prop} {i : Nat} {o : Oper} {a : Act} {w w' : World} (ho : ops[i]? = some o) (hg : Region.wanted o (yielded ops a.tmps) = true)
 (he : (execOp a.eval o).run P w = .ok .skip w') (hp : p undef w') : StepI P ops Q p i o a w := fun K hK => by
 unfold wpOp
 simp only [ho, hg, if_true]
 refine .inl ?_
 unfold Oper.wp
 rw [he]
 exact hK undef w' hp
/-- By the law of one operation. -/
theorem StepI.wp {p : Value → World → Prop} {i : Nat} {o : Oper} {a : Act} {w : World} (ho : ops[i]? = some o) (hg : Region.wanted o (yielded ops a.tmps) = true)
 (h : ∀ K : Act → World → Prop, (∀ v w', p v w' → K (a.put o.dst v) w') → Oper.wp P o a w K Q) : StepI P ops Q p i o a w := fun K hK => by
 unfold wpOp
 simp only [ho, hg, if_true]
 exact .inl (h K hK)
end
end Go.Proofs.YtihanglnjghcfaaGreatDoor
