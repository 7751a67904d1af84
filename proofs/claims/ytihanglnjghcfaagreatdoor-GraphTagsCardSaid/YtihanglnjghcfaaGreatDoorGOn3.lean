/- The document's Digits, Name, Header and ID. -/
import Derived.Test.YtihanglnjghcfaaGreatDoorGOn1
import Derived.Test.YtihanglnjghcfaaGreatDoorGOn2
import Derived.Shelf.Strings.Trim
import Derived.Shelf.Small.Utf8
import Derived.Shelf.Small.Bits
import Derived.Shelf.Small.Strs
import Derived.Shelf.Small.Wraps
import Derived.Shelf.Utf8.RuneCount
import Derived.Shelf.Strconv.Itoa0
import Derived.Shelf.Strings.Search1
import Derived.Shelf.Strings.Search2
import Derived.Shelf.Strings.Cut
import Derived.Shelf.LaysM
import Derived.Shelf.Strings.Shaped
import Derived.Shelf.Strings.Prefix
import Derived.Shelf.Unicode.Decode
import Derived.Shelf.Strings.Runes
import Derived.Shelf.Unicode.ValidAny
import Derived.Shelf.Strings.RuneCount
import Derived.Shelf.Strings.IndexAny
import Derived.Shelf.Strings.AsciiSet
import Derived.Shelf.Strings.IndexAnyAll
import Derived.Shelf.Unicode.DecodeSlow
import Derived.Shelf.Unicode.DecodeAny
import Derived.Shelf.Unicode.DecodeLast
import Derived.Shelf.Slices.Turned
import Derived.Test.YtihanglnjghcfaaGreatDoorProg
import Derived.Shelf.SlSorted.Search
import Derived.Test.YtihanglnjghcfaaGreatDoorGOn0
import Derived.Test.YtihanglnjghcfaaGreatDoorRows
import Derived.ProofKit
import Derived.OpenShut
import Derived.ShutString
import Derived.ChangeOld
import Derived.SizedLaws
import Derived.JoinedCond
import Derived.Lib.LaidU8T
namespace Go.Proofs.YtihanglnjghcfaaGreatDoor
open Go.RowKit
set_option linter.unusedVariables false
set_option linter.unusedSimpArgs false

theorem str_app (a b : List Int) : strOfNums a ++ strOfNums b = strOfNums (a ++ b) := by
  apply ByteArray.ext
  simp [strOfNums, ByteArray.data_append]
/-- A number from nought on, as digits. -/
def digL (n : Nat) : List Int := if n ≤ 9 then [48 + (n : Int)] else digL (n / 10) ++ [48 + ((n % 10 : Nat) : Int)]
termination_by n
theorem digL_big {n : Nat} (h : 9 < n) : digL n = digL (n / 10) ++ [48 + ((n % 10 : Nat) : Int)] := by
  rw [digL, if_neg (by omega)]
theorem digL_small {n : Nat} (h : n ≤ 9) : digL n = [48 + (n : Int)] := by
  rw [digL, if_pos h]
theorem digL_ok : ∀ n : Nat, Bytes (digL n) := by
  intro n
  induction n using Nat.strongRecOn with
  | _ n ih =>
    by_cases h : n ≤ 9
    · rw [digL_small h]
      intro x hx
      rw [List.mem_singleton.1 hx]; omega
    · rw [digL_big (by omega)]
      intro x hx
      rcases List.mem_append.1 hx with hx | hx
      · exact ih (n / 10) (by omega) x hx
      · rw [List.mem_singleton.1 hx]; omega
theorem digL_len : ∀ n : Nat, (digL n).length ≤ n + 1 := by
  intro n
  induction n using Nat.strongRecOn with
  | _ n ih =>
    by_cases h : n ≤ 9
    · rw [digL_small h]; simp
    · rw [digL_big (by omega), List.length_append]
      have := ih (n / 10) (by omega)
      simp only [List.length_cons, List.length_nil]
      omega
set_option maxRecDepth 100000 in
set_option maxHeartbeats 4000000 in
theorem digits_any (n0 : Nat) (w : World) (h0 : n0 < 9223372036854775807) : Calls Tryz.prog 53 #[.int .i64 n0] w fun e w' => e = .returned (.string (strOfNums (digL n0))) ∧ Below w.heap.size w w' := by
  have hcv : ∀ (W : World) (d : Int), (convert 48 9 (.slice (some ⟨W.heap.size, 0, none⟩) 1 1)).run Tryz.prog (W.alloc (.cells #[.int .u8 d] 5)) = .ok (.string (strOfNums [d])) (W.alloc (.cells #[.int .u8 d] 5)) := fun W d =>
    run_str_ints (P := Tryz.prog) (w := W.alloc (.cells #[.int .u8 d] 5)) 48 9 5 Tryz.underlying48 Tryz.underlying5 Tryz.underlying9 (some ⟨W.heap.size, 0, none⟩) 1 [d] (fun _ => ⟨_, 0, rfl, by simp, fun j hj => by
      obtain rfl : j = 0 := by simpa using hj
      rw [cell_of_row _ _ _ _ _ _ (heap_alloc_new W _)]; rfl⟩)
  go_enter Tryz.func53, Tryz.ntmps53
  go_wp2
  go_loopw [0, 3] (fun vn vs wr => ∃ (n : Nat) (xs : List Int), vn = .int .i64 n ∧ vs = .string (strOfNums xs) ∧ digL n0 = digL n ++ xs ∧ xs.length + n ≤ n0 ∧ Below w.heap.size w wr) (fun vn _ _ => (intOf vn).toNat)
  case atStart => exact ⟨n0, [], rfl, rfl, by simp, by simp, Below.refl _ _⟩
  case round =>
    obtain ⟨n, xs, rfl, rfl, hd, hl, hB⟩ := hrel
    have hsz : (strOfNums xs).size = xs.length := strOfNums_size xs
    by_cases hn : 9 < n
    · have d1 : decide ((9 : Int) < (n : Int)) = true := decide_eq_true (by omega)
      have d1' : decide (9 < n) = true := decide_eq_true hn
      obtain ⟨q, hq⟩ : ∃ q : Nat, q = n / 10 := ⟨_, rfl⟩
      have r4 : IntKind.i64.wrap ((n : Int) / 10) = (q : Int) := by rw [IntWalk.i64_in _ (by omega)]; omega
      have HD : Hid (digL n0 = digL q ++ ((48 + (n : Int) % 10) :: xs)) := Lib.hid (by rw [hd, digL_big hn, hq, List.append_assoc]; rfl)
      have HB := Lib.hid hB
      have hcv' := hcv wr (48 + (n : Int) % 10)
      have HAPP := Lib.hid (str_app [48 + (n : Int) % 10] xs)
      have h1 : (strOfNums [48 + (n : Int) % 10]).size = 1 := strOfNums_size _
      have HLL : Hid (xs.length + 1 + q ≤ n0 ∧ q < n) := Lib.hid (by omega)
      have hxl : xs.length < 9223372036854775807 := by omega
      have hB2 : Below w.heap.size w (wr.alloc (.cells #[.int .u8 (48 + (n : Int) % 10)] 5)) := hB.trans (((Below.refl _ _).alloc (Nat.le_refl _) _).mono hB.size)
      have HB2 := Lib.hid hB2
      clear hd hB hcv hq hB2
      go_wp2
      go_roundw
      case rel => exact ⟨q, _, rfl, by rw [HAPP.out]; rfl, HD.out, by have := HLL.out; simp only [List.length_cons, List.length_append, List.length_nil]; omega, HB2.out⟩
      case measure => have := HLL.out; simp [intOf]; omega
    · have d1 : decide ((9 : Int) < (n : Int)) = false := decide_eq_false (by omega)
      have d1' : decide (9 < n) = false := decide_eq_false hn
      have r3 : IntKind.u8.wrap (n : Int) = (n : Int) := by rw [IntKind.wrap_u8']; omega
      have r5 : IntKind.u8.wrap (48 + (n : Int)) = 48 + (n : Int) := by rw [IntKind.wrap_u8']; omega
      have hcv' := hcv wr (48 + (n : Int))
      have HAPP := Lib.hid (str_app [48 + (n : Int)] xs)
      have h1 : (strOfNums [48 + (n : Int)]).size = 1 := strOfNums_size _
      have HD : Hid (digL n0 = [48 + (n : Int)] ++ xs) := Lib.hid (by rw [hd, digL_small (by omega)])
      have hxl : xs.length < 9223372036854775807 := by omega
      have HB2 : Hid (Below w.heap.size w (wr.alloc (.cells #[.int .u8 (48 + (n : Int))] 5))) := Lib.hid (hB.trans (((Below.refl _ _).alloc (Nat.le_refl _) _).mono hB.size))
      clear hd hB hcv
      go_wp2
      go_ret
      exact ⟨by rw [HAPP.out, HD.out]; rfl, HB2.out⟩
/-- A kind's name. -/
def nameL (k : Int) : List Int := if k = 1 then [99, 111, 109, 109, 105, 116] else if k = 2 then [116, 114, 101, 101] else if k = 3 then [98, 108, 111, 98] else if k = 4 then [116, 97, 103] else []
theorem nameL_ok (k : Int) : Bytes (nameL k) := by
  intro x hx
  unfold nameL at hx
  split at hx
  · simp only [List.mem_cons, List.not_mem_nil, or_false] at hx; omega
  · split at hx
    · simp only [List.mem_cons, List.not_mem_nil, or_false] at hx; omega
    · split at hx
      · simp only [List.mem_cons, List.not_mem_nil, or_false] at hx; omega
      · split at hx
        · simp only [List.mem_cons, List.not_mem_nil, or_false] at hx; omega
        · cases hx
theorem nameL_len (k : Int) : (nameL k).length ≤ 6 := by
  unfold nameL
  split
  · decide
  · split
    · decide
    · split
      · decide
      · split <;> decide
set_option maxRecDepth 100000 in
set_option maxHeartbeats 4000000 in
theorem rname_any (k : Int) (w : World) : Calls Tryz.prog 55 #[.int .i64 k] w fun e w' => e = .returned (.string (strOfNums (nameL k))) ∧ Below w.heap.size w w' := by
  have hb : ∀ o : Obj, Below w.heap.size w (w.alloc o) := fun o => (Below.refl _ _).alloc (Nat.le_refl _) o
  have HB := Lib.hid hb
  clear hb
  have HN : Hid (nameL k = if k = 1 then [99, 111, 109, 109, 105, 116] else if k = 2 then [116, 114, 101, 101] else if k = 3 then [98, 108, 111, 98] else if k = 4 then [116, 97, 103] else []) := Lib.hid rfl
  by_cases hneg : k < 0
  · have d1 : decide (k < 0) = true := decide_eq_true hneg
    have HN : Hid (nameL k = []) := Lib.hid (by rw [HN.out, if_neg (by omega), if_neg (by omega), if_neg (by omega), if_neg (by omega)])
    go_enter Tryz.func55, Tryz.ntmps55
    go_wp2
    go_ret
    exact ⟨by rw [HN.out]; rfl, HB.out _⟩
  · have d1 : decide (k < 0) = false := decide_eq_false hneg
    by_cases hbig : 4 < k
    · have d2 : decide (4 < k) = true := decide_eq_true hbig
      have HN : Hid (nameL k = []) := Lib.hid (by rw [HN.out, if_neg (by omega), if_neg (by omega), if_neg (by omega), if_neg (by omega)])
      go_enter Tryz.func55, Tryz.ntmps55
      go_wp2
      go_ret
      exact ⟨by rw [HN.out]; rfl, HB.out _⟩
    · have hk : k = 0 ∨ k = 1 ∨ k = 2 ∨ k = 3 ∨ k = 4 := by omega
      clear HN hneg hbig d1
      rcases hk with rfl | rfl | rfl | rfl | rfl <;>
      · go_enter Tryz.func55, Tryz.ntmps55
        go_wp2
        go_ret
        exact ⟨by kernel_rfl, HB.out _⟩
def headL (k : Int) (n : Nat) : List Int := nameL k ++ [32] ++ digL n ++ [0]
theorem headL_ok (k : Int) (n : Nat) : Bytes (headL k n) := by
  intro x hx
  unfold headL at hx
  simp only [List.mem_append] at hx
  rcases hx with ((hx | hx) | hx) | hx
  · exact nameL_ok k x hx
  · rw [List.mem_singleton.1 hx]; omega
  · exact digL_ok n x hx
  · rw [List.mem_singleton.1 hx]; omega
set_option maxRecDepth 100000 in
set_option maxHeartbeats 4000000 in
theorem header_any (k : Int) (n : Nat) (w : World) (hn : n ≤ 140737488355328) : Calls Tryz.prog 58 #[.int .i64 k, .int .i64 n] w fun e w' => e = .returned (.string (strOfNums (headL k n))) ∧ Below w.heap.size w w' := by
  have HNM := Lib.hid (fun w => rname_any k w)
  have HDG := Lib.hid (fun w => digits_any n w (by omega))
  have z1 : (strOfNums (nameL k)).size ≤ 6 := by rw [strOfNums_size]; exact nameL_len k
  have z2 : (strOfNums (digL n)).size ≤ n + 1 := by rw [strOfNums_size]; exact digL_len n
  have HR : Hid (strOfNums (nameL k) ++ ⟨#[32]⟩ ++ strOfNums (digL n) ++ ⟨#[0]⟩ = strOfNums (headL k n)) := Lib.hid (by
    unfold headL
    rw [← str_app, ← str_app, ← str_app]; rfl)
  have z3 : (strOfNums (nameL k) ++ (⟨#[32]⟩ : ByteArray)).size = (strOfNums (nameL k)).size + 1 := by rw [ByteArray.size_append]; rfl
  have z4 : (strOfNums (nameL k) ++ (⟨#[32]⟩ : ByteArray) ++ strOfNums (digL n)).size = (strOfNums (nameL k)).size + 1 + (strOfNums (digL n)).size := by rw [ByteArray.size_append, z3]
  have m0 : ¬ ((n : Int) < 0) := by omega
  generalize strOfNums (nameL k) = S1 at *
  generalize strOfNums (digL n) = S2 at *
  go_enter Tryz.func58, Tryz.ntmps58
  go_wp2_with fail
  refine (HNM.out w).mono ?_
  rintro e w1 ⟨rfl, hb1⟩
  have HB1 := Lib.hid hb1
  clear hb1
  go_wp2_with fail
  refine (HDG.out w1).mono ?_
  rintro e w2 ⟨rfl, hb2⟩
  have HB2 := Lib.hid hb2
  clear hb2
  go_wp2
  go_ret
  exact ⟨by rw [← HR.out]; rfl, HB1.out.trans (HB2.out.mono HB1.out.size)⟩
theorem oid_sha_bytes (xs : List Int) : Bytes (shaAll xs) := by
  rw [shaAll_eq]
  intro x hx
  have key : ∀ (k : H5) (hk : k.ok) (n : Nat), Bytes (shaTo k n) := fun k hk n => by
    induction n with
    | zero => intro x hx; cases hx
    | succ n ih =>
      intro x hx
      rcases List.mem_append.1 hx with hx | hx
      · exact ih x hx
      · exact be4_ok _ (H5.nth_ok k hk n).1 (H5.nth_ok k hk n).2 x hx
  exact key _ (fb_ok _ _ _ h0_ok) 5 x hx
theorem oid_sha_len (xs : List Int) : (shaAll xs).length = 20 := by rw [shaAll_eq, shaTo_len]
theorem oidSum_any (xs : List Int) (w : World) (hb : Bytes xs) (hsz : xs.length ≤ 140737488351300) : Calls Tryz.prog 57 #[.string (strOfNums xs)] w (AskPost w (shaAll xs)) := by
  have h := refSha_any (strOfNums xs) w (by rw [strOfNums_size]; exact hsz)
  rw [bytesOf_str xs hb, strOfNums_size, ← shaAll_eq] at h
  exact h
set_option maxRecDepth 100000 in
set_option maxHeartbeats 4000000 in
theorem rid_any (k : Int) (s : ByteArray) (w : World) (hs : s.size ≤ 70368744170000) : Calls Tryz.prog 34 #[.int .i64 k, .string s] w fun e w' => e = .returned (.string (strOfNums (hexL (shaAll (headL k s.size ++ bytesOf s))))) ∧ Below w.heap.size w w' := by
  have hhl : (headL k s.size).length ≤ s.size + 10 := by
    unfold headL
    simp only [List.length_append, List.length_cons, List.length_nil]
    have := nameL_len k
    have := digL_len s.size
    omega
  have hml : (headL k s.size ++ bytesOf s).length ≤ 140737488351300 := by rw [List.length_append, bytesOf_len]; omega
  have hmb : Bytes (headL k s.size ++ bytesOf s) := fun x hx => by
    rcases List.mem_append.1 hx with h | h
    · exact headL_ok _ _ x h
    · exact bytesOf_ok s x h
  have HH := Lib.hid (fun w => header_any k s.size w (by omega))
  have HS := Lib.hid (fun w => oidSum_any (headL k s.size ++ bytesOf s) w hmb hml)
  have HX := Lib.hid (fun w A c hI => hexR_any A 20 c (shaAll (headL k s.size ++ bytesOf s)) w hI (oid_sha_len _) (oid_sha_bytes _) (by decide))
  have z1 : (strOfNums (headL k s.size)).size ≤ s.size + 10 := by rw [strOfNums_size]; exact hhl
  have HC : Hid (strOfNums (headL k s.size) ++ s = strOfNums (headL k s.size ++ bytesOf s)) := Lib.hid (by rw [← str_app, strOfNums_bytes])
  generalize strOfNums (headL k s.size) = S1 at *
  clear hhl hml hmb
  go_enter Tryz.func34, Tryz.ntmps34
  go_wp2_with fail
  refine (HH.out w).mono ?_
  rintro e w1 ⟨rfl, hb1⟩
  have HB1 := Lib.hid hb1
  clear hb1
  have HSS := Lib.hid (HS.out w1)
  rw [← HC.out] at HSS
  obtain ⟨S2, hS2⟩ : ∃ S2, S1 ++ s = S2 := ⟨_, rfl⟩
  rw [hS2] at HSS
  go_wp2_with fail
  refine HSS.out.mono ?_
  rintro e w2 ⟨A2, c2, rfl, ho2, hb2⟩
  have HXX := Lib.hid (HX.out w2 A2 c2 ho2.ints)
  rw [oid_sha_len]
  have HB2 := Lib.hid hb2
  clear ho2 hb2 hS2
  go_wp2_with fail
  refine HXX.out.mono ?_
  rintro e w3 ⟨rfl, hb3⟩
  have HB3 := Lib.hid hb3
  clear hb3
  go_wp2
  go_ret
  exact ⟨rfl, HB1.out.trans ((HB2.out.trans (HB3.out.mono HB2.out.size)).mono HB1.out.size)⟩
end Go.Proofs.YtihanglnjghcfaaGreatDoor
namespace Go.Proofs.YtihanglnjghcfaaGreatDoor
open Go.RowKit
set_option linter.unusedVariables false

def tabOf (kind : Int) (i : Nat) : Int := if kind = 2 then (crcTab i : Nat) else 0
end Go.Proofs.YtihanglnjghcfaaGreatDoor
namespace Go.Proofs.YtihanglnjghcfaaGreatDoor
open Go.RowKit
set_option linter.unusedVariables false
set_option linter.unusedSimpArgs false

def namesV : Value := .agg #[.string ⟨#[]⟩, .string ⟨#[99, 111, 109, 109, 105, 116]⟩, .string ⟨#[116, 114, 101, 101]⟩, .string ⟨#[98, 108, 111, 98]⟩, .string ⟨#[116, 97, 103]⟩]
set_option maxRecDepth 100000 in
theorem names_any (w : World) : Calls Tryz.prog 132 #[] w fun e w' => e = .returned namesV ∧ Below w.heap.size w w' := by
  go_enter Tryz.func132, Tryz.ntmps132
  go_wp2
  have hc := Cel.new w 182 #[.string ⟨#[]⟩, .string ⟨#[99, 111, 109, 109, 105, 116]⟩, .string ⟨#[116, 114, 101, 101]⟩, .string ⟨#[98, 108, 111, 98]⟩, .string ⟨#[116, 97, 103]⟩] (fun i => (#[.string ⟨#[]⟩, .string ⟨#[99, 111, 109, 109, 105, 116]⟩, .string ⟨#[116, 114, 101, 101]⟩, .string ⟨#[98, 108, 111, 98]⟩, .string ⟨#[116, 97, 103]⟩] : Array Value).getD i undef) (fun i hi => by
    have : i = 0 ∨ i = 1 ∨ i = 2 ∨ i = 3 ∨ i = 4 := by simp at hi; omega
    rcases this with rfl | rfl | rfl | rfl | rfl <;> rfl)
  exact bodyPost_ret (v := namesV) (results_cel rfl _ rfl hc Tryz.underlying182 rfl (by kernel_rfl) (Nat.le_refl 5) (fun j hj => by
    have : j = 0 ∨ j = 1 ∨ j = 2 ∨ j = 3 ∨ j = 4 := by simp at hj; omega
    rcases this with rfl | rfl | rfl | rfl | rfl <;> rfl)) rfl ⟨rfl, (Below.refl _ _).alloc (Nat.le_refl _) _⟩
theorem name_ix0 (w : World) : (Instr.index 182 namesV (.int .i64 ((0 : Nat) : Int))).run Tryz.prog w = .ok (.string (strOfNums (nameL ((0 : Nat) : Int)))) w := by kernel_rfl
theorem name_ix1 (w : World) : (Instr.index 182 namesV (.int .i64 ((1 : Nat) : Int))).run Tryz.prog w = .ok (.string (strOfNums (nameL ((1 : Nat) : Int)))) w := by kernel_rfl
theorem name_ix2 (w : World) : (Instr.index 182 namesV (.int .i64 ((2 : Nat) : Int))).run Tryz.prog w = .ok (.string (strOfNums (nameL ((2 : Nat) : Int)))) w := by kernel_rfl
theorem name_ix3 (w : World) : (Instr.index 182 namesV (.int .i64 ((3 : Nat) : Int))).run Tryz.prog w = .ok (.string (strOfNums (nameL ((3 : Nat) : Int)))) w := by kernel_rfl
theorem name_ix4 (w : World) : (Instr.index 182 namesV (.int .i64 ((4 : Nat) : Int))).run Tryz.prog w = .ok (.string (strOfNums (nameL ((4 : Nat) : Int)))) w := by kernel_rfl
theorem name_ix (k : Nat) (hk : k < 5) (w : World) : (Instr.index 182 namesV (.int .i64 (k : Int))).run Tryz.prog w = .ok (.string (strOfNums (nameL k))) w := by
  have : k = 0 ∨ k = 1 ∨ k = 2 ∨ k = 3 ∨ k = 4 := by omega
  rcases this with rfl | rfl | rfl | rfl | rfl
  · exact name_ix0 w
  · exact name_ix1 w
  · exact name_ix2 w
  · exact name_ix3 w
  · exact name_ix4 w
end Go.Proofs.YtihanglnjghcfaaGreatDoor
namespace Go.Proofs
open Go.Shelf
def Tryz.lays196_ren : Go.Shelf.Ren := ⟨fun | 196 => 123 | 259 => 135 | n => n, fun | 9 => 9 | 4 => 4 | 3 => 3 | 5 => 5 | 12 => 12 | 119 => 189 | 0 => 0 | 46 => 77 | 139 => 192 | 138 => 191 | 53 => 138 | n => n, fun | 3 => 1 | 4 => 2 | n => n⟩
theorem Tryz.lays196 : Go.Proofs.Lays.n196 Tryz.prog Tryz.lays196_ren := {
  mixed := by kernel_rfl
  f196 := Tryz.func123.trans (congrArg some (by kernel_rfl))
  f259 := Tryz.func135.trans (congrArg some (by kernel_rfl))
  t0 := Tryz.underlying0
  a0 := Tryz.isAgg0
  z0 := Tryz.sizeOf0
  v0 := Tryz.zeroValue0
  t3 := Tryz.underlying3
  a3 := Tryz.isAgg3
  z3 := Tryz.sizeOf3
  v3 := Tryz.zeroValue3
  t4 := Tryz.underlying4
  a4 := Tryz.isAgg4
  z4 := Tryz.sizeOf4
  v4 := Tryz.zeroValue4
  t5 := Tryz.underlying5
  a5 := Tryz.isAgg5
  z5 := Tryz.sizeOf5
  v5 := Tryz.zeroValue5
  t9 := Tryz.underlying9
  a9 := Tryz.isAgg9
  z9 := Tryz.sizeOf9
  v9 := Tryz.zeroValue9
  t12 := Tryz.underlying12
  a12 := Tryz.isAgg12
  z12 := Tryz.sizeOf12
  v12 := Tryz.zeroValue12
  t46 := Tryz.underlying77
  a46 := Tryz.isAgg77
  z46 := Tryz.sizeOf77
  v46 := Tryz.zeroValue77
  t53 := Tryz.underlying138
  a53 := Tryz.isAgg138
  z53 := Tryz.sizeOf138
  v53 := Tryz.zeroValue138
  t119 := Tryz.underlying189
  a119 := Tryz.isAgg189
  z119 := Tryz.sizeOf189
  t138 := Tryz.underlying191
  a138 := Tryz.isAgg191
  z138 := Tryz.sizeOf191
  v138 := Tryz.zeroValue191
  t139 := Tryz.underlying192
  a139 := Tryz.isAgg192
  z139 := Tryz.sizeOf192
  v139 := Tryz.zeroValue192
  g3 := by kernel_rfl
  g4 := by kernel_rfl }
def Tryz.lays160_ren : Go.Shelf.Ren := ⟨fun | 160 => 124 | 232 => 137 | 231 => 136 | 227 => 138 | 234 => 140 | 233 => 139 | 236 => 142 | 235 => 141 | 228 => 148 | 271 => 151 | 151 => 150 | 197 => 149 | 120 => 157 | 152 => 154 | 260 => 156 | 137 => 130 | 119 => 161 | 224 => 159 | 225 => 158 | 217 => 146 | 266 => 153 | n => n, fun | 9 => 9 | 4 => 4 | 3 => 3 | 5 => 5 | 117 => 196 | 116 => 195 | 0 => 0 | 124 => 199 | 21 => 21 | 105 => 204 | 46 => 77 | 119 => 189 | 139 => 192 | 138 => 191 | n => n, fun | 3 => 1 | 4 => 2 | n => n⟩
theorem Tryz.lays160 : Go.Proofs.Lays.n160 Tryz.prog Tryz.lays160_ren := {
  mixed := by kernel_rfl
  f119 := Tryz.func161.trans (congrArg some (by kernel_rfl))
  f120 := Tryz.func157.trans (congrArg some (by kernel_rfl))
  f137 := Tryz.func130.trans (congrArg some (by kernel_rfl))
  f151 := Tryz.func150.trans (congrArg some (by kernel_rfl))
  f152 := Tryz.func154.trans (congrArg some (by kernel_rfl))
  f160 := Tryz.func124.trans (congrArg some (by kernel_rfl))
  f197 := Tryz.func149.trans (congrArg some (by kernel_rfl))
  f217 := Tryz.func146.trans (congrArg some (by kernel_rfl))
  f224 := Tryz.func159.trans (congrArg some (by kernel_rfl))
  f225 := Tryz.func158.trans (congrArg some (by kernel_rfl))
  f227 := Tryz.func138.trans (congrArg some (by kernel_rfl))
  f228 := Tryz.func148.trans (congrArg some (by kernel_rfl))
  f231 := Tryz.func136.trans (congrArg some (by kernel_rfl))
  f232 := Tryz.func137.trans (congrArg some (by kernel_rfl))
  f233 := Tryz.func139.trans (congrArg some (by kernel_rfl))
  f234 := Tryz.func140.trans (congrArg some (by kernel_rfl))
  f235 := Tryz.func141.trans (congrArg some (by kernel_rfl))
  f236 := Tryz.func142.trans (congrArg some (by kernel_rfl))
  f260 := Tryz.func156.trans (congrArg some (by kernel_rfl))
  f266 := Tryz.func153.trans (congrArg some (by kernel_rfl))
  f271 := Tryz.func151.trans (congrArg some (by kernel_rfl))
  t0 := Tryz.underlying0
  a0 := Tryz.isAgg0
  z0 := Tryz.sizeOf0
  v0 := Tryz.zeroValue0
  t3 := Tryz.underlying3
  a3 := Tryz.isAgg3
  z3 := Tryz.sizeOf3
  v3 := Tryz.zeroValue3
  t4 := Tryz.underlying4
  a4 := Tryz.isAgg4
  z4 := Tryz.sizeOf4
  v4 := Tryz.zeroValue4
  t5 := Tryz.underlying5
  a5 := Tryz.isAgg5
  z5 := Tryz.sizeOf5
  v5 := Tryz.zeroValue5
  t9 := Tryz.underlying9
  a9 := Tryz.isAgg9
  z9 := Tryz.sizeOf9
  v9 := Tryz.zeroValue9
  t21 := Tryz.underlying21
  a21 := Tryz.isAgg21
  z21 := Tryz.sizeOf21
  v21 := Tryz.zeroValue21
  t46 := Tryz.underlying77
  a46 := Tryz.isAgg77
  z46 := Tryz.sizeOf77
  v46 := Tryz.zeroValue77
  t105 := Tryz.underlying204
  a105 := Tryz.isAgg204
  z105 := Tryz.sizeOf204
  v105 := Tryz.zeroValue204
  t116 := Tryz.underlying195
  a116 := Tryz.isAgg195
  z116 := Tryz.sizeOf195
  t117 := Tryz.underlying196
  a117 := Tryz.isAgg196
  z117 := Tryz.sizeOf196
  v117 := Tryz.zeroValue196
  t119 := Tryz.underlying189
  a119 := Tryz.isAgg189
  z119 := Tryz.sizeOf189
  t124 := Tryz.underlying199
  a124 := Tryz.isAgg199
  z124 := Tryz.sizeOf199
  v124 := Tryz.zeroValue199
  t138 := Tryz.underlying191
  a138 := Tryz.isAgg191
  z138 := Tryz.sizeOf191
  v138 := Tryz.zeroValue191
  t139 := Tryz.underlying192
  a139 := Tryz.isAgg192
  z139 := Tryz.sizeOf192
  v139 := Tryz.zeroValue192
  g3 := by kernel_rfl
  g4 := by kernel_rfl }
open Go.RowKit in
/-- strings.Trim: "Trim returns a slice of the string s with all leading and trailing Unicode code points contained in cutset removed.": AT A cutset OF ONE ASCII BYTE. THE WORLD BEHIND IT: as it was, or (where s is not empty) with ONE DRAW MORE off the tape: the statement 'return trimLeftByte(trimRightByte(s, c), c)' draws its order of evaluation. (LAID: no walk: one application.) -/
theorem Tryz.strings_Trim_one (s : ByteArray) (c : UInt8) (hc : c.toNat < 128) (w : World) (hs : s.size ≤ 9223372036854775807) :
    Calls Tryz.prog 124 #[.string s, .string ⟨#[c]⟩] w fun e w' => e = .returned (.string ⟨(Lib.trimB s.data.toList c).toArray⟩) ∧ (w' = w ∨ w' = w.drew) := Any.strings_Trim_one Tryz.lays160 s c hc w hs
def Tryz.lays119_ren : Go.Shelf.Ren := ⟨fun | 119 => 161 | n => n, fun | 21 => 21 | 4 => 4 | n => n, fun | n => n⟩
theorem Tryz.lays119 : Go.Proofs.Lays.n119 Tryz.prog Tryz.lays119_ren := {
  mixed := by kernel_rfl
  f119 := Tryz.func161.trans (congrArg some (by kernel_rfl))
  t4 := Tryz.underlying4
  a4 := Tryz.isAgg4
  z4 := Tryz.sizeOf4
  v4 := Tryz.zeroValue4
  t21 := Tryz.underlying21
  a21 := Tryz.isAgg21
  z21 := Tryz.sizeOf21
  v21 := Tryz.zeroValue21 }
/-- utf8.ValidRune: "ValidRune reports whether r can be legally encoded as UTF-8. Code points that are out of range or a surrogate half are illegal.": IT RETURNS 'Lib.validRune r'; the world is as it was. (LAID: no walk: one application.) -/
theorem Tryz.utf8_ValidRune (r : Int) (w : World) :
    Calls Tryz.prog 161 #[.int .i32 r] w fun e w' => e = .returned (.bool (Lib.validRune r)) ∧ w' = w := Any.utf8_ValidRune Tryz.lays119 r w
def Tryz.lays137_ren : Go.Shelf.Ren := ⟨fun | 137 => 130 | 217 => 146 | 266 => 153 | n => n, fun | 9 => 9 | 5 => 5 | 3 => 3 | n => n, fun | n => n⟩
theorem Tryz.lays137 : Go.Proofs.Lays.n137 Tryz.prog Tryz.lays137_ren := {
  mixed := by kernel_rfl
  f137 := Tryz.func130.trans (congrArg some (by kernel_rfl))
  f217 := Tryz.func146.trans (congrArg some (by kernel_rfl))
  f266 := Tryz.func153.trans (congrArg some (by kernel_rfl))
  t3 := Tryz.underlying3
  a3 := Tryz.isAgg3
  z3 := Tryz.sizeOf3
  v3 := Tryz.zeroValue3
  t5 := Tryz.underlying5
  a5 := Tryz.isAgg5
  z5 := Tryz.sizeOf5
  v5 := Tryz.zeroValue5
  t9 := Tryz.underlying9
  a9 := Tryz.isAgg9
  z9 := Tryz.sizeOf9
  v9 := Tryz.zeroValue9 }
open Go.RowKit in
/-- strings.IndexByte: "IndexByte returns the index of the first instance of c in s, or -1 if c is not present in s.": IT RETURNS 'Lib.indexByte s c'; the world is as it was. (LAID: no walk: one application.) -/
theorem Tryz.strings_IndexByte (s : ByteArray) (c : Int) (w : World) :
    Calls Tryz.prog 130 #[.string s, .int .u8 c] w fun e w' => e = .returned (.int .i64 (Lib.indexByte s.data.toList c.toNat.toUInt8)) ∧ w' = w := Any.strings_IndexByte Tryz.lays137 s c w
def Tryz.lays103_ren : Go.Shelf.Ren := ⟨fun | 103 => 112 | 210 => 129 | 206 => 145 | n => n, fun | 9 => 9 | 4 => 4 | 24 => 168 | 3 => 3 | n => n, fun | n => n⟩
theorem Tryz.lays103 : Go.Proofs.Lays.n103 Tryz.prog Tryz.lays103_ren := {
  mixed := by kernel_rfl
  f103 := Tryz.func112.trans (congrArg some (by kernel_rfl))
  f206 := Tryz.func145.trans (congrArg some (by kernel_rfl))
  f210 := Tryz.func129.trans (congrArg some (by kernel_rfl))
  t3 := Tryz.underlying3
  a3 := Tryz.isAgg3
  z3 := Tryz.sizeOf3
  v3 := Tryz.zeroValue3
  t4 := Tryz.underlying4
  a4 := Tryz.isAgg4
  z4 := Tryz.sizeOf4
  v4 := Tryz.zeroValue4
  t9 := Tryz.underlying9
  a9 := Tryz.isAgg9
  z9 := Tryz.sizeOf9
  v9 := Tryz.zeroValue9
  t24 := Tryz.underlying168
  a24 := Tryz.isAgg168
  z24 := Tryz.sizeOf168
  v24 := Tryz.zeroValue168 }
open Go.RowKit in
/-- strings.CutPrefix: "CutPrefix returns s without the provided leading prefix string and reports whether it found the prefix. If s doesn't start with prefix, CutPrefix returns s, false. If prefix is the empty string, CutPrefix returns s, true.": IT RETURNS '(Lib.trimPrefix s p, Lib.hasPrefix s p)'; the world is as it was. (LAID: no walk: one application.) -/
theorem Tryz.strings_CutPrefix (s p : ByteArray) (w : World) :
    Calls Tryz.prog 112 #[.string s, .string p] w fun e w' => e = .returned (.tuple #[.string ⟨(Lib.trimPrefix s.data.toList p.data.toList).toArray⟩, .bool (Lib.hasPrefix s.data.toList p.data.toList)]) ∧ w' = w := Any.strings_CutPrefix Tryz.lays103 s p w
def Tryz.lays195_ren : Go.Shelf.Ren := ⟨fun | 195 => 133 | n => n, fun | 9 => 9 | 3 => 3 | 0 => 0 | 4 => 4 | n => n, fun | n => n⟩
theorem Tryz.lays195 : Go.Proofs.Lays.n195 Tryz.prog Tryz.lays195_ren := {
  mixed := by kernel_rfl
  f195 := Tryz.func133.trans (congrArg some (by kernel_rfl))
  t0 := Tryz.underlying0
  a0 := Tryz.isAgg0
  z0 := Tryz.sizeOf0
  v0 := Tryz.zeroValue0
  t3 := Tryz.underlying3
  a3 := Tryz.isAgg3
  z3 := Tryz.sizeOf3
  v3 := Tryz.zeroValue3
  t4 := Tryz.underlying4
  a4 := Tryz.isAgg4
  z4 := Tryz.sizeOf4
  v4 := Tryz.zeroValue4
  t9 := Tryz.underlying9
  a9 := Tryz.isAgg9
  z9 := Tryz.sizeOf9
  v9 := Tryz.zeroValue9 }
open Go.RowKit in
/-- unicode/utf8.RuneCountInString: "RuneCountInString is like RuneCount but its input is a string." ("RuneCount returns the number of runes in p. Erroneous and short encodings are treated as single runes of width 1 byte."): EVERY STRING, valid UTF-8 or not: 'Lib.runeCount s' (plain Lean over the model's own 'Utf8.decode'; 'Lib.runeCount_le': at most len(s); 'Lib.runeCount_ascii': on ASCII: len(s)). THE ONE CONDITION: len(s) below 2^63 - 1 (the counter does not wrap): the form's reach pays it. THE WORLD BEHIND THE CALL: ONE BLOCK MORE: the model's iterator over s, at its end: all else as it was. (LAID: no walk: one application.) -/
theorem Tryz.utf8_RuneCountInString (s : ByteArray) (w : World) (hs : s.size < 9223372036854775807) :
    Calls Tryz.prog 133 #[.string s] w fun e w' => e = .returned (.int .i64 (Lib.runeCount s)) ∧ ∃ pos, w' = w.iter s pos := Any.utf8_RuneCountInString Tryz.lays195 s w hs
def Tryz.lays129_ren : Go.Shelf.Ren := ⟨fun | 129 => 102 | n => n, fun | 53 => 138 | 3 => 3 | 4 => 4 | 46 => 77 | 5 => 5 | 9 => 9 | n => n, fun | n => n⟩
theorem Tryz.lays129 : Go.Proofs.Lays.n129 Tryz.prog Tryz.lays129_ren := {
  mixed := by kernel_rfl
  f129 := Tryz.func102.trans (congrArg some (by kernel_rfl))
  t3 := Tryz.underlying3
  a3 := Tryz.isAgg3
  z3 := Tryz.sizeOf3
  v3 := Tryz.zeroValue3
  t4 := Tryz.underlying4
  a4 := Tryz.isAgg4
  z4 := Tryz.sizeOf4
  v4 := Tryz.zeroValue4
  t5 := Tryz.underlying5
  a5 := Tryz.isAgg5
  z5 := Tryz.sizeOf5
  v5 := Tryz.zeroValue5
  t9 := Tryz.underlying9
  a9 := Tryz.isAgg9
  z9 := Tryz.sizeOf9
  v9 := Tryz.zeroValue9
  t46 := Tryz.underlying77
  a46 := Tryz.isAgg77
  z46 := Tryz.sizeOf77
  v46 := Tryz.zeroValue77
  t53 := Tryz.underlying138
  a53 := Tryz.isAgg138
  z53 := Tryz.sizeOf138
  v53 := Tryz.zeroValue138 }
/-- bits.Len64: "Len64 returns the minimum number of bits required to represent x; the result is 0 for x == 0.": IT RETURNS 'Lib.bitLen x'; the world is as it was. ('h0', 'h1': x is a uint64.) (LAID: no walk: one application.) -/
theorem Tryz.bits_Len64 (x : Int) (w : World) (h0 : 0 ≤ x) (h1 : x ≤ 18446744073709551615) :
    Calls Tryz.prog 102 #[.int .u64 x] w fun e w' => e = .returned (.int .i64 (Lib.bitLen x.toNat)) ∧ w' = w := Any.bits_Len64 Tryz.lays129 x w h0 h1
def Tryz.lays219_ren : Go.Shelf.Ren := ⟨fun | 219 => 152 | 217 => 146 | 225 => 158 | 224 => 159 | 267 => 160 | 266 => 153 | 314 => 162 | n => n, fun | 9 => 9 | 3 => 3 | 4 => 4 | 5 => 5 | 46 => 77 | 146 => 210 | 51 => 140 | n => n, fun | 1 => 0 | n => n⟩
theorem Tryz.lays219 : Go.Proofs.Lays.n219 Tryz.prog Tryz.lays219_ren := {
  mixed := by kernel_rfl
  f217 := Tryz.func146.trans (congrArg some (by kernel_rfl))
  f219 := Tryz.func152.trans (congrArg some (by kernel_rfl))
  f224 := Tryz.func159.trans (congrArg some (by kernel_rfl))
  f225 := Tryz.func158.trans (congrArg some (by kernel_rfl))
  f266 := Tryz.func153.trans (congrArg some (by kernel_rfl))
  f267 := Tryz.func160.trans (congrArg some (by kernel_rfl))
  f314 := Tryz.func162.trans (congrArg some (by kernel_rfl))
  t3 := Tryz.underlying3
  a3 := Tryz.isAgg3
  z3 := Tryz.sizeOf3
  v3 := Tryz.zeroValue3
  t4 := Tryz.underlying4
  a4 := Tryz.isAgg4
  z4 := Tryz.sizeOf4
  v4 := Tryz.zeroValue4
  t5 := Tryz.underlying5
  a5 := Tryz.isAgg5
  z5 := Tryz.sizeOf5
  v5 := Tryz.zeroValue5
  t9 := Tryz.underlying9
  a9 := Tryz.isAgg9
  z9 := Tryz.sizeOf9
  v9 := Tryz.zeroValue9
  t46 := Tryz.underlying77
  a46 := Tryz.isAgg77
  z46 := Tryz.sizeOf77
  v46 := Tryz.zeroValue77
  t51 := Tryz.underlying140
  a51 := Tryz.isAgg140
  z51 := Tryz.sizeOf140
  v51 := Tryz.zeroValue140
  t146 := Tryz.underlying210
  a146 := Tryz.isAgg210
  z146 := Tryz.sizeOf210
  v146 := Tryz.zeroValue210
  g1 := by kernel_rfl }
open Go.RowKit Go.Lib in
/-- internal/stringslite.Index (what strings.Index calls) AT A substr OF ONE BYTE c: IT RETURNS 'Lib.indexByte s c'; the world is as it was. (LAID: no walk: one application.) -/
theorem Tryz.stringslite_Index_one (s : ByteArray) (c : UInt8) (w : World) :
    Calls Tryz.prog 152 #[.string s, .string ⟨#[c]⟩] w fun e w' => e = .returned (.int .i64 (Lib.indexByte s.data.toList c)) ∧ w' = w := Any.stringslite_Index_one Tryz.lays219 s c w
def Tryz.lays152_ren : Go.Shelf.Ren := ⟨fun | 152 => 154 | 137 => 130 | 119 => 161 | 224 => 159 | 225 => 158 | 217 => 146 | 266 => 153 | n => n, fun | 9 => 9 | 21 => 21 | 3 => 3 | 4 => 4 | 5 => 5 | 0 => 0 | 46 => 77 | n => n, fun | n => n⟩
theorem Tryz.lays152 : Go.Proofs.Lays.n152 Tryz.prog Tryz.lays152_ren := {
  mixed := by kernel_rfl
  f119 := Tryz.func161.trans (congrArg some (by kernel_rfl))
  f137 := Tryz.func130.trans (congrArg some (by kernel_rfl))
  f152 := Tryz.func154.trans (congrArg some (by kernel_rfl))
  f217 := Tryz.func146.trans (congrArg some (by kernel_rfl))
  f224 := Tryz.func159.trans (congrArg some (by kernel_rfl))
  f225 := Tryz.func158.trans (congrArg some (by kernel_rfl))
  f266 := Tryz.func153.trans (congrArg some (by kernel_rfl))
  t0 := Tryz.underlying0
  a0 := Tryz.isAgg0
  z0 := Tryz.sizeOf0
  v0 := Tryz.zeroValue0
  t3 := Tryz.underlying3
  a3 := Tryz.isAgg3
  z3 := Tryz.sizeOf3
  v3 := Tryz.zeroValue3
  t4 := Tryz.underlying4
  a4 := Tryz.isAgg4
  z4 := Tryz.sizeOf4
  v4 := Tryz.zeroValue4
  t5 := Tryz.underlying5
  a5 := Tryz.isAgg5
  z5 := Tryz.sizeOf5
  v5 := Tryz.zeroValue5
  t9 := Tryz.underlying9
  a9 := Tryz.isAgg9
  z9 := Tryz.sizeOf9
  v9 := Tryz.zeroValue9
  t21 := Tryz.underlying21
  a21 := Tryz.isAgg21
  z21 := Tryz.sizeOf21
  v21 := Tryz.zeroValue21
  t46 := Tryz.underlying77
  a46 := Tryz.isAgg77
  z46 := Tryz.sizeOf77
  v46 := Tryz.zeroValue77 }
open Go.RowKit Go.Lib in
theorem Tryz.strings_IndexRune_ascii (s : ByteArray) (r : Int) (w : World) (h0 : 0 ≤ r) (h1 : r < 128) :
    Calls Tryz.prog 154 #[.string s, .int .i32 r] w fun e w' => e = .returned (.int .i64 (Lib.indexByte s.data.toList r.toNat.toUInt8)) ∧ w' = w := Any.strings_IndexRune_ascii Tryz.lays152 s r w h0 h1
def Tryz.lays226_ren : Go.Shelf.Ren := ⟨fun | 226 => 155 | n => n, fun | 3 => 3 | 4 => 4 | n => n, fun | n => n⟩
theorem Tryz.lays226 : Go.Proofs.Lays.n226 Tryz.prog Tryz.lays226_ren := {
  mixed := by kernel_rfl
  f226 := Tryz.func155.trans (congrArg some (by kernel_rfl))
  t3 := Tryz.underlying3
  a3 := Tryz.isAgg3
  z3 := Tryz.sizeOf3
  v3 := Tryz.zeroValue3
  t4 := Tryz.underlying4
  a4 := Tryz.isAgg4
  z4 := Tryz.sizeOf4
  v4 := Tryz.zeroValue4 }
open Go.RowKit Go.Lib in
theorem Tryz.strings_shouldUseASCIISet (n : Int) (w : World) :
    Calls Tryz.prog 155 #[.int .i64 n] w fun e w' => e = .returned (.bool (decide (8 < n))) ∧ w' = w := Any.strings_shouldUseASCIISet Tryz.lays226 n w
def Tryz.lays153_ren : Go.Shelf.Ren := ⟨fun | 153 => 147 | 152 => 154 | 226 => 155 | 227 => 138 | 228 => 148 | 137 => 130 | 119 => 161 | 224 => 159 | 225 => 158 | 217 => 146 | 266 => 153 | n => n, fun | 9 => 9 | 3 => 3 | 4 => 4 | 5 => 5 | 21 => 21 | 117 => 196 | 116 => 195 | 0 => 0 | 46 => 77 | 124 => 199 | n => n, fun | n => n⟩
theorem Tryz.lays153 : Go.Proofs.Lays.n153 Tryz.prog Tryz.lays153_ren := {
  mixed := by kernel_rfl
  f119 := Tryz.func161.trans (congrArg some (by kernel_rfl))
  f137 := Tryz.func130.trans (congrArg some (by kernel_rfl))
  f152 := Tryz.func154.trans (congrArg some (by kernel_rfl))
  f153 := Tryz.func147.trans (congrArg some (by kernel_rfl))
  f217 := Tryz.func146.trans (congrArg some (by kernel_rfl))
  f224 := Tryz.func159.trans (congrArg some (by kernel_rfl))
  f225 := Tryz.func158.trans (congrArg some (by kernel_rfl))
  f226 := Tryz.func155.trans (congrArg some (by kernel_rfl))
  f227 := Tryz.func138.trans (congrArg some (by kernel_rfl))
  f228 := Tryz.func148.trans (congrArg some (by kernel_rfl))
  f266 := Tryz.func153.trans (congrArg some (by kernel_rfl))
  t0 := Tryz.underlying0
  a0 := Tryz.isAgg0
  z0 := Tryz.sizeOf0
  v0 := Tryz.zeroValue0
  t3 := Tryz.underlying3
  a3 := Tryz.isAgg3
  z3 := Tryz.sizeOf3
  v3 := Tryz.zeroValue3
  t4 := Tryz.underlying4
  a4 := Tryz.isAgg4
  z4 := Tryz.sizeOf4
  v4 := Tryz.zeroValue4
  t5 := Tryz.underlying5
  a5 := Tryz.isAgg5
  z5 := Tryz.sizeOf5
  v5 := Tryz.zeroValue5
  t9 := Tryz.underlying9
  a9 := Tryz.isAgg9
  z9 := Tryz.sizeOf9
  v9 := Tryz.zeroValue9
  t21 := Tryz.underlying21
  a21 := Tryz.isAgg21
  z21 := Tryz.sizeOf21
  v21 := Tryz.zeroValue21
  t46 := Tryz.underlying77
  a46 := Tryz.isAgg77
  z46 := Tryz.sizeOf77
  v46 := Tryz.zeroValue77
  t116 := Tryz.underlying195
  a116 := Tryz.isAgg195
  z116 := Tryz.sizeOf195
  t117 := Tryz.underlying196
  a117 := Tryz.isAgg196
  z117 := Tryz.sizeOf196
  v117 := Tryz.zeroValue196
  t124 := Tryz.underlying199
  a124 := Tryz.isAgg199
  z124 := Tryz.sizeOf199
  v124 := Tryz.zeroValue199 }
open Go.RowKit Go.Lib in
/-- chars is one ASCII byte. (LAID: no walk: one application.) -/
theorem Tryz.strings_IndexAny_one (s chars : ByteArray) (w : World) (h1 : chars.size = 1) (hascii : ∀ (j : Nat) b, chars.data.toList[j]? = some b → b.toNat < 128) :
    Calls Tryz.prog 147 #[.string s, .string chars] w fun e w' => e = .returned (.int .i64 (Lib.indexAny s.data.toList chars.data.toList)) ∧ w' = w := Any.strings_IndexAny_one Tryz.lays153 s chars w h1 hascii
def Tryz.lays227_ren : Go.Shelf.Ren := ⟨fun | 227 => 138 | n => n, fun | 9 => 9 | 116 => 195 | 4 => 4 | 0 => 0 | 3 => 3 | 5 => 5 | n => n, fun | n => n⟩
theorem Tryz.lays227 : Go.Proofs.Lays.n227 Tryz.prog Tryz.lays227_ren := {
  mixed := by kernel_rfl
  f227 := Tryz.func138.trans (congrArg some (by kernel_rfl))
  t0 := Tryz.underlying0
  a0 := Tryz.isAgg0
  z0 := Tryz.sizeOf0
  v0 := Tryz.zeroValue0
  t3 := Tryz.underlying3
  a3 := Tryz.isAgg3
  z3 := Tryz.sizeOf3
  v3 := Tryz.zeroValue3
  t4 := Tryz.underlying4
  a4 := Tryz.isAgg4
  z4 := Tryz.sizeOf4
  v4 := Tryz.zeroValue4
  t5 := Tryz.underlying5
  a5 := Tryz.isAgg5
  z5 := Tryz.sizeOf5
  v5 := Tryz.zeroValue5
  t9 := Tryz.underlying9
  a9 := Tryz.isAgg9
  z9 := Tryz.sizeOf9
  v9 := Tryz.zeroValue9
  t116 := Tryz.underlying195
  a116 := Tryz.isAgg195
  z116 := Tryz.sizeOf195 }
open Go.RowKit Go.Lib in
theorem Tryz.strings_makeASCIISet (hv116 : ∀ w, (zeroValue 195).run Tryz.prog w = .ok (.agg (Array.replicate 256 (.bool false))) w) (chars : ByteArray) (w : World) (hs : chars.size < 4294967281) (hascii : ∀ (j : Nat) b, chars.data.toList[j]? = some b → b.toNat < 128) :
    Calls Tryz.prog 138 #[.string chars] w fun e w' => e = .returned (.tuple #[.agg (Lib.setCells chars.data.toList), .bool true]) ∧ w' = w.alloc (.cells (Lib.setCells chars.data.toList) 195) := Any.strings_makeASCIISet Tryz.lays227 hv116 (by kernel_rfl) chars w hs hascii
def Tryz.lays228_ren : Go.Shelf.Ren := ⟨fun | 228 => 148 | n => n, fun | 124 => 199 | 5 => 5 | 4 => 4 | 0 => 0 | 116 => 195 | n => n, fun | n => n⟩
theorem Tryz.lays228 : Go.Proofs.Lays.n228 Tryz.prog Tryz.lays228_ren := {
  mixed := by kernel_rfl
  f228 := Tryz.func148.trans (congrArg some (by kernel_rfl))
  t0 := Tryz.underlying0
  a0 := Tryz.isAgg0
  z0 := Tryz.sizeOf0
  v0 := Tryz.zeroValue0
  t4 := Tryz.underlying4
  a4 := Tryz.isAgg4
  z4 := Tryz.sizeOf4
  v4 := Tryz.zeroValue4
  t5 := Tryz.underlying5
  a5 := Tryz.isAgg5
  z5 := Tryz.sizeOf5
  v5 := Tryz.zeroValue5
  t116 := Tryz.underlying195
  a116 := Tryz.isAgg195
  z116 := Tryz.sizeOf195
  t124 := Tryz.underlying199
  a124 := Tryz.isAgg199
  z124 := Tryz.sizeOf199
  v124 := Tryz.zeroValue199 }
open Go.RowKit Go.Lib in
/-- '(as *asciiSet) contains(c)': 'as[c]': the set lies at block b, whole. (LAID: no walk: one application.) -/
theorem Tryz.asciiSet_contains (b : Nat) (x : UInt8) (v : Bool) (w : World) (hc : w.cell? ⟨b, x.toNat, none⟩ = some (.bool v)) :
    Calls Tryz.prog 148 #[.pointer (some ⟨b, 0, none⟩), .int .u8 x.toNat] w fun e w' => e = .returned (.bool v) ∧ w' = w := Any.asciiSet_contains Tryz.lays228 b x v w hc
def Tryz.lays110_ren : Go.Shelf.Ren := ⟨fun | 110 => 111 | 109 => 128 | n => n, fun | 31 => 32 | 9 => 9 | 4 => 4 | 3 => 3 | 0 => 0 | n => n, fun | n => n⟩
theorem Tryz.lays110 : Go.Proofs.Lays.n110 Tryz.prog Tryz.lays110_ren := {
  mixed := by kernel_rfl
  f109 := Tryz.func128.trans (congrArg some (by kernel_rfl))
  f110 := Tryz.func111.trans (congrArg some (by kernel_rfl))
  t0 := Tryz.underlying0
  a0 := Tryz.isAgg0
  z0 := Tryz.sizeOf0
  v0 := Tryz.zeroValue0
  t3 := Tryz.underlying3
  a3 := Tryz.isAgg3
  z3 := Tryz.sizeOf3
  v3 := Tryz.zeroValue3
  t4 := Tryz.underlying4
  a4 := Tryz.isAgg4
  z4 := Tryz.sizeOf4
  v4 := Tryz.zeroValue4
  t9 := Tryz.underlying9
  a9 := Tryz.isAgg9
  z9 := Tryz.sizeOf9
  v9 := Tryz.zeroValue9
  t31 := Tryz.underlying32
  a31 := Tryz.isAgg32
  z31 := Tryz.sizeOf32
  v31 := Tryz.zeroValue32 }
open Go.Lib in
/-- slices.Contains at []string: "Contains reports whether v is present in s.": IT RETURNS 'Lib.containsS (the elements) v', which is true just where v is among them ('Lib.containsS_iff'); the world is as it was. ITS CALLEE slices.Index IS MET BY ITS OWN CONTRACT OFF THE SHELF (lay that first): no loop is walked here. (LAID: no walk: one application.) -/
theorem Tryz.slices_Contains_string (b off n c : Nat) (zs : List ByteArray) (x : ByteArray) (w : World) (hz : n ≤ zs.length) (hbig : n ≤ 9223372036854775807) (hc : ∀ j, j < zs.length → w.cell? ⟨b, off + j, none⟩ = some (.string (zs.getD j ByteArray.empty))) :
    Calls Tryz.prog 111 #[.slice (some ⟨b, off, none⟩) n c, .string x] w fun e w' => e = .returned (.bool (Lib.containsS (zs.take n) x)) ∧ w' = w := Any.slices_Contains_string Tryz.lays110 b off n c zs x w hz hbig hc
open Go.Lib in
/-- The same at a slice of length 0, a nil one too. (LAID: no walk: one application.) -/
theorem Tryz.slices_Contains_string_empty (a : Option Addr) (c : Nat) (x : ByteArray) (w : World) :
    Calls Tryz.prog 111 #[.slice a 0 c, .string x] w fun e w' => e = .returned (.bool false) ∧ w' = w := Any.slices_Contains_string_empty Tryz.lays110 a c x w
end Go.Proofs
namespace Go.Proofs.YtihanglnjghcfaaGreatDoor
open Go.RowKit
set_option linter.unusedVariables false
set_option linter.unusedSimpArgs false

def isName (s : ByteArray) (k : Nat) : Bool := (strOfNums (nameL (k : Int))).toList == s.toList
/-- The kind that a name is. -/
def kindN (s : ByteArray) : Nat := if isName s 1 then 1 else if isName s 2 then 2 else if isName s 3 then 3 else if isName s 4 then 4 else 0
theorem kindN_at (s : ByteArray) (k : Nat) (h1 : 1 ≤ k) (h4 : k ≤ 4) (hb : ∀ j, 1 ≤ j → j < k → isName s j = false) (h : isName s k = true) : kindN s = k := by
  unfold kindN
  have : k = 1 ∨ k = 2 ∨ k = 3 ∨ k = 4 := by omega
  rcases this with rfl | rfl | rfl | rfl
  · rw [if_pos h]
  · rw [if_neg (by rw [hb 1 (by omega) (by omega)]; decide), if_pos h]
  · rw [if_neg (by rw [hb 1 (by omega) (by omega)]; decide), if_neg (by rw [hb 2 (by omega) (by omega)]; decide), if_pos h]
  · rw [if_neg (by rw [hb 1 (by omega) (by omega)]; decide), if_neg (by rw [hb 2 (by omega) (by omega)]; decide), if_neg (by rw [hb 3 (by omega) (by omega)]; decide), if_pos h]
theorem kindN_no (s : ByteArray) (hb : ∀ j, 1 ≤ j → j < 5 → isName s j = false) : kindN s = 0 := by
  unfold kindN
  rw [if_neg (by rw [hb 1 (by omega) (by omega)]; decide), if_neg (by rw [hb 2 (by omega) (by omega)]; decide), if_neg (by rw [hb 3 (by omega) (by omega)]; decide), if_neg (by rw [hb 4 (by omega) (by omega)]; decide)]
def KindPost (s : ByteArray) (w : World) (e : Ending) (w' : World) : Prop := e = .returned (.tuple #[.int .i64 ((kindN s : Nat) : Int), .bool (decide (0 < kindN s))]) ∧ Below w.heap.size w w'
set_option maxRecDepth 100000 in
theorem kind_any (s : ByteArray) (w : World) : Calls Tryz.prog 115 #[.string s] w (KindPost s w) := by
  have hnm := names_any w
  have hx := fun (k : Nat) (hk : k < 5) w' => name_ix k hk w'
  generalize namesV = V at *
  have HX := Lib.hid hx
  clear hx
  go_enter Tryz.func115, Tryz.ntmps115
  go_wp2_with (refine hnm.mono ?_; rintro e w1 ⟨rfl, hb1⟩)
  have HB := Lib.hid hb1
  clear hb1 hnm
  go_loopw [4, 5, 7] (fun _ _ v wr => ∃ k : Nat, v = .int .i64 (k : Int) ∧ k ≤ 5 ∧ wr = w1 ∧ ∀ j, 1 ≤ j → j < k → isName s j = false) (fun _ _ v _ => 5 - (intOf v).toNat)
  case atStart => exact ⟨0, rfl, by omega, rfl, fun j h1 h2 => by omega⟩
  case round =>
    obtain ⟨k, rfl, hk, rfl, hno⟩ := hrel
    have HN := Lib.hid hno
    clear hno
    by_cases hk5 : k < 5
    · have d0 : decide ((k : Int) < 5) = true := decide_eq_true (by omega)
      have hix := fun w' => HX.out k hk5 w'
      by_cases h0 : 0 < k
      · have d1 : decide ((0 : Int) < (k : Int)) = true := decide_eq_true (by omega)
        cases hn : isName s k
        · have hn' : ((strOfNums (nameL (k : Int))).toList == s.toList) = false := hn
          have HS : Hid (∀ j, 1 ≤ j → j < k + 1 → isName s j = false) := Lib.hid (fun j h1 h2 => by
            by_cases hj : j = k
            · rw [hj]; exact hn
            · exact HN.out j h1 (by omega))
          clear hn
          go_wp2
          go_roundw
          case rel => exact ⟨k + 1, by go_num, by omega, by first | rfl | trivial, HS.out⟩
          case measure => simp [intOf]; omega
        · have hn' : ((strOfNums (nameL (k : Int))).toList == s.toList) = true := hn
          have HS := Lib.hid (kindN_at s k h0 (by omega) HN.out hn)
          clear hn
          go_wp2
          go_ret2
          unfold KindPost
          rw [HS.out]
          exact ⟨by rw [decide_eq_true h0]; rfl, HB.out⟩
      · obtain rfl : k = 0 := by omega
        have HS : Hid (∀ j, 1 ≤ j → j < 0 + 1 → isName s j = false) := Lib.hid (fun j h1 h2 => by omega)
        have d1 : decide ((0 : Int) < ((0 : Nat) : Int)) = false := by decide
        clear hix
        have hix : ∀ w', (Instr.index 182 V (.int .i64 0)).run Tryz.prog w' = .ok (.string (strOfNums (nameL 0))) w' := fun w' => HX.out 0 (by omega) w'
        go_wp2
        go_roundw
        case rel => exact ⟨1, by go_num, by omega, by first | rfl | trivial, HS.out⟩
        case measure => simp [intOf]
    · obtain rfl : k = 5 := by omega
      have d0 : decide (((5 : Nat) : Int) < 5) = false := by decide
      have HS := Lib.hid (kindN_no s HN.out)
      go_wp2
      go_ret2
      unfold KindPost
      rw [HS.out]
      exact ⟨rfl, HB.out⟩
end Go.Proofs.YtihanglnjghcfaaGreatDoor
namespace Go.Proofs.YtihanglnjghcfaaGreatDoor
open Go.RowKit
set_option linter.unusedVariables false

theorem run_conv (w : World) (s : ByteArray) (hsz : s.size ≤ 140737488351300) : ∃ A cap w', (convert 9 48 (.string s)).run Tryz.prog w = .ok (.slice A s.size cap) w' ∧ Ints .u8 w' A (bytesOf s) ∧ s.size ≤ cap ∧ cap ≤ 9223372036854775807 ∧ Below w.heap.size w w' ∧ ∀ b o, A = some ⟨b, o, none⟩ → w.heap.size ≤ b := by
  have hge := grownCap_ge w s.size 0 5
  have hcm : grownCap w s.size 0 5 ≤ maxLen := grownCap_le_maxLen w s.size 0 5 (by unfold maxLen; omega)
  have ho := OwnS.of_str w.drew s 5 _ hge hcm
  refine ⟨_, _, _, run_bytes_of_string (P := Tryz.prog) w 9 48 5 s Tryz.underlying9 Tryz.underlying48 Tryz.underlying5, ho.ints, hge, by unfold maxLen at hcm; omega, ((Below.refl _ _).drew).alloc (by simp) _, fun b o h => by injection h with h; injection h with h _ _; exact Nat.le_of_eq h⟩
theorem wp_conv {o : Oper} {a : Act} {w : World} {K : Act → World → Prop} {Q : Exit → Act → World → Prop} (y : Operand) (ho : o.op = .convert 9 48 y) (s : ByteArray) (n : Nat) (L : List Int) (hy : a.eval y = .string s) (hn : s.size = n) (hL : bytesOf s = L) (hsz : s.size ≤ 140737488351300)
    (h : ∀ A cap w', Ints .u8 w' A L → n ≤ cap → cap ≤ 9223372036854775807 → Below w.heap.size w w' → (∀ b o, A = some ⟨b, o, none⟩ → w.heap.size ≤ b) → K (a.put o.dst (.slice A n cap)) w') : o.wp Tryz.prog a w K Q := by
  subst hn; subst hL
  obtain ⟨A, cap, w', hr, h1, h2, h3, h4, h5⟩ := run_conv w s hsz
  unfold Oper.wp execOp
  simp only [ho, hy, Sem.run_bind, hr, Result.andThen_ok, Sem.run_pure]
  exact h A cap w' h1 h2 h3 h4 h5
theorem wpList_conv {ops : Array Oper} {rest : List Oper} {o : Oper} {a : Act} {Q : Exit → Act → World → Prop} {w : World} (hgd : o.guard = none) (y : Operand) (ho : o.op = .convert 9 48 y) (s : ByteArray) (n : Nat) (L : List Int) (hy : a.eval y = .string s) (hn : s.size = n) (hL : bytesOf s = L) (hsz : s.size ≤ 140737488351300)
    (h : ∀ A cap w', Ints .u8 w' A L → n ≤ cap → cap ≤ 9223372036854775807 → Below w.heap.size w w' → (∀ b o, A = some ⟨b, o, none⟩ → w.heap.size ≤ b) → wpList Tryz.prog ops Q rest (a.put o.dst (.slice A n cap)) w') : wpList Tryz.prog ops Q (o :: rest) a w :=
  wpList_plain hgd fun _ hK => wp_conv y ho s n L hy hn hL hsz fun A c w' h1 h2 h3 h4 h5 => hK _ _ (h A c w' h1 h2 h3 h4 h5)
theorem step_conv {ops : Array Oper} {o : Oper} {a : Act} {K : Act → World → Prop} {Q : Exit → Act → World → Prop} {E : Prop} {w : World} (hgd : o.guard = none) (y : Operand) (ho : o.op = .convert 9 48 y) (s : ByteArray) (n : Nat) (L : List Int) (hy : a.eval y = .string s) (hn : s.size = n) (hL : bytesOf s = L) (hsz : s.size ≤ 140737488351300)
    (h : ∀ A cap w', Ints .u8 w' A L → n ≤ cap → cap ≤ 9223372036854775807 → Below w.heap.size w w' → (∀ b o, A = some ⟨b, o, none⟩ → w.heap.size ≤ b) → K (a.put o.dst (.slice A n cap)) w') :
    if Region.wanted o (yielded ops a.tmps) = true then Oper.wp Tryz.prog o a w K Q else E := by
  have hw : Region.wanted o (yielded ops a.tmps) = true := by simp [Region.wanted, hgd]
  rw [if_pos hw]
  exact wp_conv y ho s n L hy hn hL hsz h
end Go.Proofs.YtihanglnjghcfaaGreatDoor
namespace Go.Proofs.YtihanglnjghcfaaGreatDoor
open Go.RowKit
set_option linter.unusedVariables false
set_option linter.unusedSimpArgs false

theorem sfb_more (xs ys : List Int) : fb (((xs.drop (64 * (xs.length / 64))) ++ ys).length / 64) (fb (xs.length / 64) h0 xs) ((xs.drop (64 * (xs.length / 64))) ++ ys) = fb ((xs ++ ys).length / 64) h0 (xs ++ ys) := by
  have e1 : ((xs.drop (64 * (xs.length / 64))) ++ ys).length / 64 + xs.length / 64 = (xs ++ ys).length / 64 := by
    simp only [List.length_append, List.length_drop]; omega
  rw [← e1, Nat.add_comm, fb_add, fb_app (xs.length / 64) h0 xs ys (by omega), List.drop_append_of_le_length (by omega)]
theorem sdrop_more (xs ys : List Int) : ((xs.drop (64 * (xs.length / 64))) ++ ys).drop (64 * (((xs.drop (64 * (xs.length / 64))) ++ ys).length / 64)) = (xs ++ ys).drop (64 * ((xs ++ ys).length / 64)) := by
  have e1 : ((xs.drop (64 * (xs.length / 64))) ++ ys).length / 64 + xs.length / 64 = (xs ++ ys).length / 64 := by
    simp only [List.length_append, List.length_drop]; omega
  rw [← e1, ← List.drop_append_of_le_length (by omega : 64 * (xs.length / 64) ≤ xs.length), List.drop_drop]
  congr 1
  omega
/-- What the walks ask of the library's own variables. -/
structure EnvO (w : World) : Prop where
  tabs : Lib.Utf8Tabs 1 2 w
theorem EnvO.below {w w' : World} (h : EnvO w) (hb : Below w.heap.size w w') : EnvO w' := ⟨Utf8Tabs_below h.tabs hb⟩
end Go.Proofs.YtihanglnjghcfaaGreatDoor
namespace Go.Proofs.YtihanglnjghcfaaGreatDoor
open Go.ChangeShapes Go.WideShapes Go.ChangeAt Go.RowKit
open Go.ChangeMaps (open_string shut_string)

theorem own : ownKnob Tryz.prog.godebug = none := by kernel_rfl
theorem laidOut : laidOutB Tryz.prog = true := by kernel_rfl

theorem openInts {H : Type} {enc : TypeId × Value → H} {P : Program} {W : World} {base : Nat} {ts : List TypeId} {ds : List (DataW H)} {j : Nat} {t e : TypeId} {k : IntKind} {v : Value} {d : DataW H} {p : List MemPlace}
    (ht : P.underlying t = some (.slice e)) (he : P.underlying e = some (.int k)) (hC : P.cellsOf e = 1) (hval : Value.okWide P W .any base t v) (h : DataW.Trod enc P W 0 (fun _ => true) true t v d p)
    (hsz : (DataW.weightsEach P ts ds).all (· ≤ reachBytes) = true) (htj : ts[j]? = some t) (hdj : ds[j]? = some d) :
    ∃ (A : Option Addr) (c : Nat) (xs : List Int), v = .slice A xs.length c ∧ Ints k W A xs ∧ (∀ x ∈ xs, (Lit.int k x).wf = true) ∧ xs.length * P.bytesOf e ≤ 140737488351232 := by
  obtain ⟨a0, len0, cap0, rfl⟩ := okWide_slice ht hval
  have hlt : ∀ x ∈ p, x.block < W.heap.size := by obtain ⟨m, hm⟩ := h; exact DataW.trod_lt m _ _ _ hm
  obtain ⟨fuel, hf⟩ := h
  rcases open_ints ht he hC hf with ⟨hcs, _⟩ | ⟨x, l, c, zs, hcs, _, hl, hm, hz, hx, hcell, hwz⟩
  · simp [Value.cells] at hcs
    obtain ⟨rfl, rfl, rfl⟩ := hcs
    exact ⟨none, 0, [], rfl, Ints.nil, by simp, by simp⟩
  · simp [Value.cells] at hcs
    obtain ⟨rfl, rfl, rfl⟩ := hcs
    simp only [Prod.mk.injEq] at hx
    obtain ⟨rfl, rfl⟩ := hx
    have hzl : zs.length = cap0 := by simpa using hz
    have hs := sized_slice hsz htj hdj ht
    simp only [lits, List.length_map, List.length_take, List.length_drop, reachBytes] at hs
    refine ⟨some x, cap0, zs.take len0, by rw [List.length_take_of_le (by omega)], ?_, fun y hy => hwz y (List.mem_of_mem_take hy), ?_⟩
    · intro h0
      obtain ⟨b, o, sp⟩ := x
      rw [List.length_take_of_le (by omega)] at h0
      have hsp : sp = none := by simpa [Addr.add] using World.cell?_spot (hcell 0 (by omega))
      subst hsp
      refine ⟨b, o, rfl, ?_, fun i hi => ?_⟩
      · have h1 := hcell 0 (by omega)
        have := World.block_lt_of_cell? W _ h1
        simpa [Addr.add] using this
      · rw [List.length_take_of_le (by omega)] at hi
        have h1 := hcell i (by omega)
        have h2 : (⟨b, o, none⟩ : Addr).add i = ⟨b, o + i, none⟩ := by unfold Addr.add; split <;> simp_all
        rw [h2] at h1
        rw [h1]
        simp [List.getD_eq_getElem?_getD, hi]
    · rw [List.length_take_of_le (by omega)]
      refine Nat.le_trans ?_ hs
      exact Nat.mul_le_mul_right _ (by omega)
end Go.Proofs.YtihanglnjghcfaaGreatDoor
namespace Go.Proofs.YtihanglnjghcfaaGreatDoor
open Go.ChangeShapes Go.WideShapes Go.ChangeAt Go.RowKit

def setTab (cs : Array Value) : Obj → Obj
  | .cells _ t frozen => .cells cs t frozen
  | o => o
def firstCells : Array Value := (Go.Pinned.utf8FirstZ.map fun n : Nat => Value.int .u8 (n : Int)).toArray
def acceptCells : Array Value := ((List.range 16).flatMap fun i => [Value.int .u8 (Lib.accLo i), Value.int .u8 (Lib.accHi i)]).toArray
/-- The settled world, the listed tables holding what their initialisers lay. -/
noncomputable def laidWorld (os : Os) : World :=
  { World.holding Tryz.prog os ⟨#[], #[], []⟩ with heap := ((World.holding Tryz.prog os ⟨#[], #[], []⟩).heap.modify 1 (setTab firstCells)).modify 2 (setTab acceptCells) }
theorem u8x : Go.Proofs.U8Extra Tryz.prog Tryz.lays196_ren := ⟨by kernel_rfl, by kernel_rfl, by kernel_rfl, by kernel_rfl, by kernel_rfl, by kernel_rfl, by kernel_rfl⟩
theorem first_eq : Go.Pinned.utf8First = Lib.firstData := by kernel_rfl
theorem env_of {laid : List (String × DataW Unit)} {W : World} (hlaid : laid = [("unicode/utf8.acceptRanges", Rows.laid_unicode_utf8_acceptRanges), ("unicode/utf8.first", Rows.laid_unicode_utf8_first)]) (h : laidMetH Tryz.prog laid W) : EnvO W := by
  subst hlaid
  have hl : laidMet Tryz.prog [("unicode/utf8.acceptRanges", Rows.laid_unicode_utf8_acceptRanges), ("unicode/utf8.first", Rows.laid_unicode_utf8_first)] W := h
  have h3 : Lib.VarReads Tryz.prog W "unicode/utf8.first" Lib.firstData := by
    rw [← first_eq]
    exact Lib.laidMet.reads hl (by simp [Rows.laid_unicode_utf8_first])
  have h4 : Lib.VarReads Tryz.prog W "unicode/utf8.acceptRanges" Lib.acceptData := by
    have e : (Rows.laid_unicode_utf8_acceptRanges : DataW Unit) = Lib.acceptData := by kernel_rfl
    rw [← e]
    exact Lib.laidMet.reads hl (by simp)
  exact ⟨Go.Proofs.utf8Tabs_of_readsT (P := Tryz.prog) (ρ := Tryz.lays196_ren) { Tryz.lays196 with } u8x h3 h4⟩
theorem int_le {x : Int} (h : (Lit.int .i64 x).wf = true) : x ≤ 9223372036854775807 := by
  simp only [Lit.wf, IntKind.min, IntKind.max, IntKind.bits, IntKind.signed] at h
  simp at h
  omega
end Go.Proofs.YtihanglnjghcfaaGreatDoor
