/- The document's Digits, Name, Header and ID. -/
import Derived.Test.YtdlabapfcghfmaaGreatDoorSumStr
import Derived.Test.YtdlabapfcghfmaaGreatDoorSumRefS
import Derived.Test.YtdlabapfcghfmaaGreatDoorSumRefH
import Derived.Test.YtdlabapfcghfmaaGreatDoorSumMathC
namespace Go.Proofs.YtdlabapfcghfmaaGreatDoor
open Go.RowKit
set_option linter.unusedVariables false
set_option linter.unusedSimpArgs false

theorem str_app (a b : List Int) : strOfNums a ++ strOfNums b = strOfNums (a ++ b) := by
  apply ByteArray.ext
  simp [strOfNums, ByteArray.data_append]
/-- A number from nought on, as digits. -/
def digL (n : Nat) : List Int := if n ≤ 9 then [48 + (n : Int)] else digL (n / 10) ++ [48 + ((n % 10 : Nat) : Int)]
termination_by n
theorem digL_big {n : Nat} (h : 9 < n) : digL n = digL (n / 10) ++ [48 + ((n % 10 : Nat) : Int)] := by
  rw [digL, if_neg (by omega)]
theorem digL_small {n : Nat} (h : n ≤ 9) : digL n = [48 + (n : Int)] := by
  rw [digL, if_pos h]
theorem digL_ok : ∀ n : Nat, Bytes (digL n) := by
  intro n
  induction n using Nat.strongRecOn with
  | _ n ih =>
    by_cases h : n ≤ 9
    · rw [digL_small h]
      intro x hx
      rw [List.mem_singleton.1 hx]; omega
    · rw [digL_big (by omega)]
      intro x hx
      rcases List.mem_append.1 hx with hx | hx
      · exact ih (n / 10) (by omega) x hx
      · rw [List.mem_singleton.1 hx]; omega
theorem digL_len : ∀ n : Nat, (digL n).length ≤ n + 1 := by
  intro n
  induction n using Nat.strongRecOn with
  | _ n ih =>
    by_cases h : n ≤ 9
    · rw [digL_small h]; simp
    · rw [digL_big (by omega), List.length_append]
      have := ih (n / 10) (by omega)
      simp only [List.length_cons, List.length_nil]
      omega
set_option maxRecDepth 100000 in
set_option maxHeartbeats 4000000 in
theorem digits_any (n0 : Nat) (w : World) (h0 : n0 < 9223372036854775807) : Calls Tryz.prog 14 #[.int .i64 n0] w fun e w' => e = .returned (.string (strOfNums (digL n0))) ∧ Below w.heap.size w w' := by
  have hcv : ∀ (W : World) (d : Int), (convert 24 9 (.slice (some ⟨W.heap.size, 0, none⟩) 1 1)).run Tryz.prog (W.alloc (.cells #[.int .u8 d] 5)) = .ok (.string (strOfNums [d])) (W.alloc (.cells #[.int .u8 d] 5)) := fun W d =>
    run_str_ints (P := Tryz.prog) (w := W.alloc (.cells #[.int .u8 d] 5)) 24 9 5 Tryz.underlying24 Tryz.underlying5 Tryz.underlying9 (some ⟨W.heap.size, 0, none⟩) 1 [d] (fun _ => ⟨_, 0, rfl, by simp, fun j hj => by
      obtain rfl : j = 0 := by simpa using hj
      rw [cell_of_row _ _ _ _ _ _ (heap_alloc_new W _)]; rfl⟩)
  go_enter Tryz.func14, Tryz.ntmps14
  go_wp2
  go_loopw [0, 3] (fun vn vs wr => ∃ (n : Nat) (xs : List Int), vn = .int .i64 n ∧ vs = .string (strOfNums xs) ∧ digL n0 = digL n ++ xs ∧ xs.length + n ≤ n0 ∧ Below w.heap.size w wr) (fun vn _ _ => (intOf vn).toNat)
  case atStart => exact ⟨n0, [], rfl, rfl, by simp, by simp, Below.refl _ _⟩
  case round =>
    obtain ⟨n, xs, rfl, rfl, hd, hl, hB⟩ := hrel
    have hsz : (strOfNums xs).size = xs.length := strOfNums_size xs
    by_cases hn : 9 < n
    · have d1 : decide ((9 : Int) < (n : Int)) = true := decide_eq_true (by omega)
      have d1' : decide (9 < n) = true := decide_eq_true hn
      obtain ⟨q, hq⟩ : ∃ q : Nat, q = n / 10 := ⟨_, rfl⟩
      have r4 : IntKind.i64.wrap ((n : Int) / 10) = (q : Int) := by rw [IntWalk.i64_in _ (by omega)]; omega
      have HD : Hid (digL n0 = digL q ++ ((48 + (n : Int) % 10) :: xs)) := Lib.hid (by rw [hd, digL_big hn, hq, List.append_assoc]; rfl)
      have HB := Lib.hid hB
      have hcv' := hcv wr (48 + (n : Int) % 10)
      have HAPP := Lib.hid (str_app [48 + (n : Int) % 10] xs)
      have h1 : (strOfNums [48 + (n : Int) % 10]).size = 1 := strOfNums_size _
      have HLL : Hid (xs.length + 1 + q ≤ n0 ∧ q < n) := Lib.hid (by omega)
      have hxl : xs.length < 9223372036854775807 := by omega
      have hB2 : Below w.heap.size w (wr.alloc (.cells #[.int .u8 (48 + (n : Int) % 10)] 5)) := hB.trans (((Below.refl _ _).alloc (Nat.le_refl _) _).mono hB.size)
      have HB2 := Lib.hid hB2
      clear hd hB hcv hq hB2
      go_wp2
      go_roundw
      case rel => exact ⟨q, _, rfl, by rw [HAPP.out]; rfl, HD.out, by have := HLL.out; simp only [List.length_cons, List.length_append, List.length_nil]; omega, HB2.out⟩
      case measure => have := HLL.out; simp [intOf]; omega
    · have d1 : decide ((9 : Int) < (n : Int)) = false := decide_eq_false (by omega)
      have d1' : decide (9 < n) = false := decide_eq_false hn
      have r3 : IntKind.u8.wrap (n : Int) = (n : Int) := by rw [IntKind.wrap_u8']; omega
      have r5 : IntKind.u8.wrap (48 + (n : Int)) = 48 + (n : Int) := by rw [IntKind.wrap_u8']; omega
      have hcv' := hcv wr (48 + (n : Int))
      have HAPP := Lib.hid (str_app [48 + (n : Int)] xs)
      have h1 : (strOfNums [48 + (n : Int)]).size = 1 := strOfNums_size _
      have HD : Hid (digL n0 = [48 + (n : Int)] ++ xs) := Lib.hid (by rw [hd, digL_small (by omega)])
      have hxl : xs.length < 9223372036854775807 := by omega
      have HB2 : Hid (Below w.heap.size w (wr.alloc (.cells #[.int .u8 (48 + (n : Int))] 5))) := Lib.hid (hB.trans (((Below.refl _ _).alloc (Nat.le_refl _) _).mono hB.size))
      clear hd hB hcv
      go_wp2
      go_ret
      exact ⟨by rw [HAPP.out, HD.out]; rfl, HB2.out⟩
/-- A kind's name. -/
def nameL (k : Int) : List Int := if k = 1 then [99, 111, 109, 109, 105, 116] else if k = 2 then [116, 114, 101, 101] else if k = 3 then [98, 108, 111, 98] else if k = 4 then [116, 97, 103] else []
theorem nameL_ok (k : Int) : Bytes (nameL k) := by
  intro x hx
  unfold nameL at hx
  split at hx
  · simp only [List.mem_cons, List.not_mem_nil, or_false] at hx; omega
  · split at hx
    · simp only [List.mem_cons, List.not_mem_nil, or_false] at hx; omega
    · split at hx
      · simp only [List.mem_cons, List.not_mem_nil, or_false] at hx; omega
      · split at hx
        · simp only [List.mem_cons, List.not_mem_nil, or_false] at hx; omega
        · cases hx
theorem nameL_len (k : Int) : (nameL k).length ≤ 6 := by
  unfold nameL
  split
  · decide
  · split
    · decide
    · split
      · decide
      · split <;> decide
set_option maxRecDepth 100000 in
set_option maxHeartbeats 4000000 in
theorem rname_any (k : Int) (w : World) : Calls Tryz.prog 70 #[.int .i64 k] w fun e w' => e = .returned (.string (strOfNums (nameL k))) ∧ Below w.heap.size w w' := by
  have hb : ∀ o : Obj, Below w.heap.size w (w.alloc o) := fun o => (Below.refl _ _).alloc (Nat.le_refl _) o
  have HB := Lib.hid hb
  clear hb
  have HN : Hid (nameL k = if k = 1 then [99, 111, 109, 109, 105, 116] else if k = 2 then [116, 114, 101, 101] else if k = 3 then [98, 108, 111, 98] else if k = 4 then [116, 97, 103] else []) := Lib.hid rfl
  by_cases hneg : k < 0
  · have d1 : decide (k < 0) = true := decide_eq_true hneg
    have HN : Hid (nameL k = []) := Lib.hid (by rw [HN.out, if_neg (by omega), if_neg (by omega), if_neg (by omega), if_neg (by omega)])
    go_enter Tryz.func70, Tryz.ntmps70
    go_wp2
    go_ret
    exact ⟨by rw [HN.out]; rfl, HB.out _⟩
  · have d1 : decide (k < 0) = false := decide_eq_false hneg
    by_cases hbig : 4 < k
    · have d2 : decide (4 < k) = true := decide_eq_true hbig
      have HN : Hid (nameL k = []) := Lib.hid (by rw [HN.out, if_neg (by omega), if_neg (by omega), if_neg (by omega), if_neg (by omega)])
      go_enter Tryz.func70, Tryz.ntmps70
      go_wp2
      go_ret
      exact ⟨by rw [HN.out]; rfl, HB.out _⟩
    · have hk : k = 0 ∨ k = 1 ∨ k = 2 ∨ k = 3 ∨ k = 4 := by omega
      clear HN hneg hbig d1
      rcases hk with rfl | rfl | rfl | rfl | rfl <;>
      · go_enter Tryz.func70, Tryz.ntmps70
        go_wp2
        go_ret
        exact ⟨by kernel_rfl, HB.out _⟩
def headL (k : Int) (n : Nat) : List Int := nameL k ++ [32] ++ digL n ++ [0]
theorem headL_ok (k : Int) (n : Nat) : Bytes (headL k n) := by
  intro x hx
  unfold headL at hx
  simp only [List.mem_append] at hx
  rcases hx with ((hx | hx) | hx) | hx
  · exact nameL_ok k x hx
  · rw [List.mem_singleton.1 hx]; omega
  · exact digL_ok n x hx
  · rw [List.mem_singleton.1 hx]; omega
set_option maxRecDepth 100000 in
set_option maxHeartbeats 4000000 in
theorem header_any (k : Int) (n : Nat) (w : World) (hn : n ≤ 140737488355328) : Calls Tryz.prog 40 #[.int .i64 k, .int .i64 n] w fun e w' => e = .returned (.string (strOfNums (headL k n))) ∧ Below w.heap.size w w' := by
  have HNM := Lib.hid (fun w => rname_any k w)
  have HDG := Lib.hid (fun w => digits_any n w (by omega))
  have z1 : (strOfNums (nameL k)).size ≤ 6 := by rw [strOfNums_size]; exact nameL_len k
  have z2 : (strOfNums (digL n)).size ≤ n + 1 := by rw [strOfNums_size]; exact digL_len n
  have HR : Hid (strOfNums (nameL k) ++ ⟨#[32]⟩ ++ strOfNums (digL n) ++ ⟨#[0]⟩ = strOfNums (headL k n)) := Lib.hid (by
    unfold headL
    rw [← str_app, ← str_app, ← str_app]; rfl)
  have z3 : (strOfNums (nameL k) ++ (⟨#[32]⟩ : ByteArray)).size = (strOfNums (nameL k)).size + 1 := by rw [ByteArray.size_append]; rfl
  have z4 : (strOfNums (nameL k) ++ (⟨#[32]⟩ : ByteArray) ++ strOfNums (digL n)).size = (strOfNums (nameL k)).size + 1 + (strOfNums (digL n)).size := by rw [ByteArray.size_append, z3]
  have m0 : ¬ ((n : Int) < 0) := by omega
  generalize strOfNums (nameL k) = S1 at *
  generalize strOfNums (digL n) = S2 at *
  go_enter Tryz.func40, Tryz.ntmps40
  go_wp2_with fail
  refine (HNM.out w).mono ?_
  rintro e w1 ⟨rfl, hb1⟩
  have HB1 := Lib.hid hb1
  clear hb1
  go_wp2_with fail
  refine (HDG.out w1).mono ?_
  rintro e w2 ⟨rfl, hb2⟩
  have HB2 := Lib.hid hb2
  clear hb2
  go_wp2
  go_ret
  exact ⟨by rw [← HR.out]; rfl, HB1.out.trans (HB2.out.mono HB1.out.size)⟩
theorem oid_sha_bytes (xs : List Int) : Bytes (shaAll xs) := by
  rw [shaAll_eq]
  intro x hx
  have key : ∀ (k : H5) (hk : k.ok) (n : Nat), Bytes (shaTo k n) := fun k hk n => by
    induction n with
    | zero => intro x hx; cases hx
    | succ n ih =>
      intro x hx
      rcases List.mem_append.1 hx with hx | hx
      · exact ih x hx
      · exact be4_ok _ (H5.nth_ok k hk n).1 (H5.nth_ok k hk n).2 x hx
  exact key _ (fb_ok _ _ _ h0_ok) 5 x hx
theorem oid_sha_len (xs : List Int) : (shaAll xs).length = 20 := by rw [shaAll_eq, shaTo_len]
theorem oidSum_any (xs : List Int) (w : World) (hb : Bytes xs) (hsz : xs.length ≤ 140737488351300) : Calls Tryz.prog 39 #[.string (strOfNums xs)] w (AskPost w (shaAll xs)) := by
  have h := refSha_any (strOfNums xs) w (by rw [strOfNums_size]; exact hsz)
  rw [bytesOf_str xs hb, strOfNums_size, ← shaAll_eq] at h
  exact h
set_option maxRecDepth 100000 in
set_option maxHeartbeats 4000000 in
theorem rid_any (k : Int) (s : ByteArray) (w : World) (hs : s.size ≤ 70368744170000) : Calls Tryz.prog 15 #[.int .i64 k, .string s] w fun e w' => e = .returned (.string (strOfNums (hexL (shaAll (headL k s.size ++ bytesOf s))))) ∧ Below w.heap.size w w' := by
  have hhl : (headL k s.size).length ≤ s.size + 10 := by
    unfold headL
    simp only [List.length_append, List.length_cons, List.length_nil]
    have := nameL_len k
    have := digL_len s.size
    omega
  have hml : (headL k s.size ++ bytesOf s).length ≤ 140737488351300 := by rw [List.length_append, bytesOf_len]; omega
  have hmb : Bytes (headL k s.size ++ bytesOf s) := fun x hx => by
    rcases List.mem_append.1 hx with h | h
    · exact headL_ok _ _ x h
    · exact bytesOf_ok s x h
  have HH := Lib.hid (fun w => header_any k s.size w (by omega))
  have HS := Lib.hid (fun w => oidSum_any (headL k s.size ++ bytesOf s) w hmb hml)
  have HX := Lib.hid (fun w A c hI => hexR_any A 20 c (shaAll (headL k s.size ++ bytesOf s)) w hI (oid_sha_len _) (oid_sha_bytes _) (by decide))
  have z1 : (strOfNums (headL k s.size)).size ≤ s.size + 10 := by rw [strOfNums_size]; exact hhl
  have HC : Hid (strOfNums (headL k s.size) ++ s = strOfNums (headL k s.size ++ bytesOf s)) := Lib.hid (by rw [← str_app, strOfNums_bytes])
  generalize strOfNums (headL k s.size) = S1 at *
  clear hhl hml hmb
  go_enter Tryz.func15, Tryz.ntmps15
  go_wp2_with fail
  refine (HH.out w).mono ?_
  rintro e w1 ⟨rfl, hb1⟩
  have HB1 := Lib.hid hb1
  clear hb1
  have HSS := Lib.hid (HS.out w1)
  rw [← HC.out] at HSS
  obtain ⟨S2, hS2⟩ : ∃ S2, S1 ++ s = S2 := ⟨_, rfl⟩
  rw [hS2] at HSS
  go_wp2_with fail
  refine HSS.out.mono ?_
  rintro e w2 ⟨A2, c2, rfl, ho2, hb2⟩
  have HXX := Lib.hid (HX.out w2 A2 c2 ho2.ints)
  rw [oid_sha_len]
  have HB2 := Lib.hid hb2
  clear ho2 hb2 hS2
  go_wp2_with fail
  refine HXX.out.mono ?_
  rintro e w3 ⟨rfl, hb3⟩
  have HB3 := Lib.hid hb3
  clear hb3
  go_wp2
  go_ret
  exact ⟨rfl, HB1.out.trans ((HB2.out.trans (HB3.out.mono HB2.out.size)).mono HB1.out.size)⟩
end Go.Proofs.YtdlabapfcghfmaaGreatDoor
