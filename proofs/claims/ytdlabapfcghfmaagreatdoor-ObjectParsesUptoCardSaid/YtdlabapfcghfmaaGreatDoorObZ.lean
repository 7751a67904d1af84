/- Digits, headers and IDs at any size (printed by genobz.py). -/
import Derived.Test.YtdlabapfcghfmaaGreatDoorObK
namespace Go.Proofs.YtdlabapfcghfmaaGreatDoor
open Go.RowKit
set_option linter.unusedVariables false
set_option linter.unusedSimpArgs false

set_option maxRecDepth 100000 in
set_option maxHeartbeats 1000000 in
theorem digitsB_any (n0 : Nat) (w : World) (h0 : n0 ≤ 9223372036854775807) : Calls Tryz.prog 14 #[.int .i64 n0] w fun e w' => e = .returned (.string (strOfNums (digL n0))) ∧ Below w.heap.size w w' := by
  have hcv : ∀ (W : World) (d : Int), (convert 24 9 (.slice (some ⟨W.heap.size, 0, none⟩) 1 1)).run Tryz.prog (W.alloc (.cells #[.int .u8 d] 5)) = .ok (.string (strOfNums [d])) (W.alloc (.cells #[.int .u8 d] 5)) := fun W d =>
    run_str_ints (P := Tryz.prog) (w := W.alloc (.cells #[.int .u8 d] 5)) 24 9 5 Tryz.underlying24 Tryz.underlying5 Tryz.underlying9 (some ⟨W.heap.size, 0, none⟩) 1 [d] (fun _ => ⟨_, 0, rfl, by simp, fun j hj => by
      obtain rfl : j = 0 := by simpa using hj
      rw [cell_of_row _ _ _ _ _ _ (heap_alloc_new W _)]; rfl⟩)
  go_enter Tryz.func14, Tryz.ntmps14
  go_wp2
  go_loopw [0, 3] (fun vn vs wr => ∃ (n : Nat) (xs : List Int), vn = .int .i64 n ∧ vs = .string (strOfNums xs) ∧ digL n0 = digL n ++ xs ∧ xs.length + n ≤ n0 ∧ Below w.heap.size w wr) (fun vn _ _ => (intOf vn).toNat)
  case atStart => exact ⟨n0, [], rfl, rfl, by simp, by simp, Below.refl _ _⟩
  case round =>
    obtain ⟨n, xs, rfl, rfl, hd, hl, hB⟩ := hrel
    have hsz : (strOfNums xs).size = xs.length := strOfNums_size xs
    by_cases hn : 9 < n
    · have d1 : decide ((9 : Int) < (n : Int)) = true := decide_eq_true (by omega)
      have d1' : decide (9 < n) = true := decide_eq_true hn
      obtain ⟨q, hq⟩ : ∃ q : Nat, q = n / 10 := ⟨_, rfl⟩
      have r4 : IntKind.i64.wrap ((n : Int) / 10) = (q : Int) := by rw [IntWalk.i64_in _ (by omega)]; omega
      have HD : Hid (digL n0 = digL q ++ ((48 + (n : Int) % 10) :: xs)) := Lib.hid (by rw [hd, digL_big hn, hq, List.append_assoc]; rfl)
      have HB := Lib.hid hB
      have hcv' := hcv wr (48 + (n : Int) % 10)
      have HAPP := Lib.hid (str_app [48 + (n : Int) % 10] xs)
      have h1 : (strOfNums [48 + (n : Int) % 10]).size = 1 := strOfNums_size _
      have HLL : Hid (xs.length + 1 + q ≤ n0 ∧ q < n) := Lib.hid (by omega)
      have hxl : xs.length < 9223372036854775807 := by have e := congrArg List.length hd; rw [List.length_append] at e; have := digL_19 n0 (by omega); omega
      have hB2 : Below w.heap.size w (wr.alloc (.cells #[.int .u8 (48 + (n : Int) % 10)] 5)) := hB.trans (((Below.refl _ _).alloc (Nat.le_refl _) _).mono hB.size)
      have HB2 := Lib.hid hB2
      clear hd hB hcv hq hB2
      go_wp2
      go_roundw
      case rel => exact ⟨q, _, rfl, by rw [HAPP.out]; rfl, HD.out, by have := HLL.out; simp only [List.length_cons, List.length_append, List.length_nil]; omega, HB2.out⟩
      case measure => have := HLL.out; simp [intOf]; omega
    · have d1 : decide ((9 : Int) < (n : Int)) = false := decide_eq_false (by omega)
      have d1' : decide (9 < n) = false := decide_eq_false hn
      have r3 : IntKind.u8.wrap (n : Int) = (n : Int) := by rw [IntKind.wrap_u8']; omega
      have r5 : IntKind.u8.wrap (48 + (n : Int)) = 48 + (n : Int) := by rw [IntKind.wrap_u8']; omega
      have hcv' := hcv wr (48 + (n : Int))
      have HAPP := Lib.hid (str_app [48 + (n : Int)] xs)
      have h1 : (strOfNums [48 + (n : Int)]).size = 1 := strOfNums_size _
      have HD : Hid (digL n0 = [48 + (n : Int)] ++ xs) := Lib.hid (by rw [hd, digL_small (by omega)])
      have hxl : xs.length < 9223372036854775807 := by have e := congrArg List.length hd; rw [List.length_append] at e; have := digL_19 n0 (by omega); omega
      have HB2 : Hid (Below w.heap.size w (wr.alloc (.cells #[.int .u8 (48 + (n : Int))] 5))) := Lib.hid (hB.trans (((Below.refl _ _).alloc (Nat.le_refl _) _).mono hB.size))
      clear hd hB hcv
      go_wp2
      go_ret
      exact ⟨by rw [HAPP.out, HD.out]; rfl, HB2.out⟩
set_option maxRecDepth 100000 in
set_option maxHeartbeats 1000000 in
theorem headerN_any (k : Int) (n : Nat) (w : World) (hn : n ≤ 9223372036854775807) : Calls Tryz.prog 40 #[.int .i64 k, .int .i64 n] w fun e w' => e = .returned (.string (strOfNums (headL k n))) ∧ Below w.heap.size w w' := by
  have HNM := Lib.hid (fun w => rname_any k w)
  have HDG := Lib.hid (fun w => digitsB_any n w (by omega))
  have z1 : (strOfNums (nameL k)).size ≤ 6 := by rw [strOfNums_size]; exact nameL_len k
  have z2 : (strOfNums (digL n)).size ≤ 19 := by rw [strOfNums_size]; exact digL_19 n (by omega)
  have HR : Hid (strOfNums (nameL k) ++ ⟨#[32]⟩ ++ strOfNums (digL n) ++ ⟨#[0]⟩ = strOfNums (headL k n)) := Lib.hid (by
    unfold headL
    rw [← str_app, ← str_app, ← str_app]; rfl)
  have z3 : (strOfNums (nameL k) ++ (⟨#[32]⟩ : ByteArray)).size = (strOfNums (nameL k)).size + 1 := by rw [ByteArray.size_append]; rfl
  have z4 : (strOfNums (nameL k) ++ (⟨#[32]⟩ : ByteArray) ++ strOfNums (digL n)).size = (strOfNums (nameL k)).size + 1 + (strOfNums (digL n)).size := by rw [ByteArray.size_append, z3]
  have m0 : ¬ ((n : Int) < 0) := by omega
  generalize strOfNums (nameL k) = S1 at *
  generalize strOfNums (digL n) = S2 at *
  go_enter Tryz.func40, Tryz.ntmps40
  go_wp2_with fail
  refine (HNM.out w).mono ?_
  rintro e w1 ⟨rfl, hb1⟩
  have HB1 := Lib.hid hb1
  clear hb1
  go_wp2_with fail
  refine (HDG.out w1).mono ?_
  rintro e w2 ⟨rfl, hb2⟩
  have HB2 := Lib.hid hb2
  clear hb2
  go_wp2
  go_ret
  exact ⟨by rw [← HR.out]; rfl, HB1.out.trans (HB2.out.mono HB1.out.size)⟩
set_option maxRecDepth 100000 in
set_option maxHeartbeats 1000000 in
theorem headN_any (k : Int) (n : Nat) (w : World) (hE : EnvO w) (hn : n ≤ 9223372036854775807) : Calls Tryz.prog 27 #[.int .i64 k, .int .i64 n] w fun e w' => ∃ A c, e = .returned (.slice A (headL k n).length c) ∧ Ints .u8 w' A (headL k n) ∧ Below w.heap.size w w' := by
  have HNM := Lib.hid (fun w => name_any k w)
  have HDG := Lib.hid (fun w hE => itoa_any n w hE (by omega))
  have z1 : (strOfNums (nameL k)).size ≤ 6 := by rw [strOfNums_size]; exact nameL_len k
  have z2 : (strOfNums (digL n)).size ≤ 19 := by rw [strOfNums_size]; exact digL_19 n (by omega)
  have HR : strOfNums (nameL k) ++ ⟨#[32]⟩ ++ strOfNums (digL n) ++ ⟨#[0]⟩ = strOfNums (headL k n) := by
    unfold headL
    rw [← str_app, ← str_app, ← str_app]; rfl
  have HZ : (strOfNums (headL k n)).size = (headL k n).length := strOfNums_size _
  have HBO := bytesOf_str (headL k n) (headL_ok k n)
  have z3 : (strOfNums (nameL k) ++ (⟨#[32]⟩ : ByteArray)).size = (strOfNums (nameL k)).size + 1 := by rw [ByteArray.size_append]; rfl
  have z4 : (strOfNums (nameL k) ++ (⟨#[32]⟩ : ByteArray) ++ strOfNums (digL n)).size = (strOfNums (nameL k)).size + 1 + (strOfNums (digL n)).size := by rw [ByteArray.size_append, z3]
  have z5 : (strOfNums (nameL k) ++ (⟨#[32]⟩ : ByteArray) ++ strOfNums (digL n) ++ (⟨#[0]⟩ : ByteArray)).size = (strOfNums (nameL k)).size + 1 + (strOfNums (digL n)).size + 1 := by rw [ByteArray.size_append, z4]; rfl
  have m0 : ¬ ((n : Int) < 0) := by omega
  have hE' := Lib.hid hE
  clear hE
  have HR := Lib.hid HR
  have HBO := Lib.hid HBO
  have HZ := Lib.hid HZ
  generalize hl : headL k n = HL at *
  clear hl
  generalize strOfNums (nameL k) = S1 at *
  generalize strOfNums (digL n) = S2 at *
  go_enter Tryz.func27, Tryz.ntmps27
  go_wp2_with fail
  refine (HNM.out w).mono ?_
  rintro e w1 ⟨rfl, hb1⟩
  have HB1 := Lib.hid hb1
  clear hb1
  go_wp2_with fail
  refine (HDG.out w1 (hE'.out.below HB1.out)).mono ?_
  rintro e w2 ⟨rfl, hb2⟩
  have HB2 := Lib.hid hb2
  clear hb2
  have hsz : (strOfNums HL).size ≤ 140737488351300 := by rw [← HR.out, z5]; omega
  go_wp2_with (refine wpList_conv rfl (.tmp 12) rfl (strOfNums HL) HL.length HL (by rw [← HR.out]; rfl) HZ.out HBO.out hsz ?_; intro A5 c5 w5 hI5 hc5 hcm5 hb5 _)
  go_ret
  exact ⟨A5, c5, rfl, hI5, (HB1.out.trans (HB2.out.mono HB1.out.size)).trans (hb5.mono (Nat.le_trans HB1.out.size HB2.out.size))⟩
theorem digits0_any (w : World) : Calls Tryz.prog 14 #[.int .i64 0] w fun e w' => e = .returned (.string (strOfNums (digL 0))) ∧ Below w.heap.size w w' := by
  have h := digitsB_any 0 w (by omega)
  rw [show (((0 : Nat)) : Int) = 0 from rfl] at h
  exact h
set_option maxRecDepth 100000 in
set_option maxHeartbeats 1000000 in
theorem headerM_any (k z : Int) (hz : z < 0) (w : World)  : Calls Tryz.prog 40 #[.int .i64 k, .int .i64 z] w fun e w' => e = .returned (.string (strOfNums (headL k 0))) ∧ Below w.heap.size w w' := by
  have HNM := Lib.hid (fun w => rname_any k w)
  have HDG := Lib.hid (fun w => digits0_any w)
  have z1 : (strOfNums (nameL k)).size ≤ 6 := by rw [strOfNums_size]; exact nameL_len k
  have z2 : (strOfNums (digL (0 : Nat))).size ≤ 19 := by rw [strOfNums_size]; exact digL_19 (0 : Nat) (by omega)
  have HR : Hid (strOfNums (nameL k) ++ ⟨#[32]⟩ ++ strOfNums (digL (0 : Nat)) ++ ⟨#[0]⟩ = strOfNums (headL k (0 : Nat))) := Lib.hid (by
    unfold headL
    rw [← str_app, ← str_app, ← str_app]; rfl)
  have z3 : (strOfNums (nameL k) ++ (⟨#[32]⟩ : ByteArray)).size = (strOfNums (nameL k)).size + 1 := by rw [ByteArray.size_append]; rfl
  have z4 : (strOfNums (nameL k) ++ (⟨#[32]⟩ : ByteArray) ++ strOfNums (digL (0 : Nat))).size = (strOfNums (nameL k)).size + 1 + (strOfNums (digL (0 : Nat))).size := by rw [ByteArray.size_append, z3]
  have m0 : max z 0 = 0 := by omega
  generalize strOfNums (nameL k) = S1 at *
  generalize strOfNums (digL (0 : Nat)) = S2 at *
  go_enter Tryz.func40, Tryz.ntmps40
  go_wp2_with fail
  refine (HNM.out w).mono ?_
  rintro e w1 ⟨rfl, hb1⟩
  have HB1 := Lib.hid hb1
  clear hb1
  go_wp2_with fail
  refine (HDG.out w1).mono ?_
  rintro e w2 ⟨rfl, hb2⟩
  have HB2 := Lib.hid hb2
  clear hb2
  go_wp2
  go_ret
  exact ⟨by rw [← HR.out]; rfl, HB1.out.trans (HB2.out.mono HB1.out.size)⟩
theorem itoa0_any (w : World) (hE : EnvO w) : Calls Tryz.prog 54 #[.int .i64 0] w fun e w' => e = .returned (.string (strOfNums (digL 0))) ∧ Below w.heap.size w w' := by
  have h := itoa_any 0 w hE (by omega)
  rw [show (((0 : Nat)) : Int) = 0 from rfl] at h
  exact h
set_option maxRecDepth 100000 in
set_option maxHeartbeats 1000000 in
theorem headM_any (k z : Int) (hz : z < 0) (w : World) (hE : EnvO w)  : Calls Tryz.prog 27 #[.int .i64 k, .int .i64 z] w fun e w' => ∃ A c, e = .returned (.slice A (headL k 0).length c) ∧ Ints .u8 w' A (headL k 0) ∧ Below w.heap.size w w' := by
  have HNM := Lib.hid (fun w => name_any k w)
  have HDG := Lib.hid (fun w hE => itoa0_any w hE)
  have z1 : (strOfNums (nameL k)).size ≤ 6 := by rw [strOfNums_size]; exact nameL_len k
  have z2 : (strOfNums (digL (0 : Nat))).size ≤ 19 := by rw [strOfNums_size]; exact digL_19 (0 : Nat) (by omega)
  have HR : strOfNums (nameL k) ++ ⟨#[32]⟩ ++ strOfNums (digL (0 : Nat)) ++ ⟨#[0]⟩ = strOfNums (headL k (0 : Nat)) := by
    unfold headL
    rw [← str_app, ← str_app, ← str_app]; rfl
  have HZ : (strOfNums (headL k (0 : Nat))).size = (headL k (0 : Nat)).length := strOfNums_size _
  have HBO := bytesOf_str (headL k (0 : Nat)) (headL_ok k (0 : Nat))
  have z3 : (strOfNums (nameL k) ++ (⟨#[32]⟩ : ByteArray)).size = (strOfNums (nameL k)).size + 1 := by rw [ByteArray.size_append]; rfl
  have z4 : (strOfNums (nameL k) ++ (⟨#[32]⟩ : ByteArray) ++ strOfNums (digL (0 : Nat))).size = (strOfNums (nameL k)).size + 1 + (strOfNums (digL (0 : Nat))).size := by rw [ByteArray.size_append, z3]
  have z5 : (strOfNums (nameL k) ++ (⟨#[32]⟩ : ByteArray) ++ strOfNums (digL (0 : Nat)) ++ (⟨#[0]⟩ : ByteArray)).size = (strOfNums (nameL k)).size + 1 + (strOfNums (digL (0 : Nat))).size + 1 := by rw [ByteArray.size_append, z4]; rfl
  have m0 : max z 0 = 0 := by omega
  have hE' := Lib.hid hE
  clear hE
  have HR := Lib.hid HR
  have HBO := Lib.hid HBO
  have HZ := Lib.hid HZ
  generalize hl : headL k (0 : Nat) = HL at *
  clear hl
  generalize strOfNums (nameL k) = S1 at *
  generalize strOfNums (digL (0 : Nat)) = S2 at *
  go_enter Tryz.func27, Tryz.ntmps27
  go_wp2_with fail
  refine (HNM.out w).mono ?_
  rintro e w1 ⟨rfl, hb1⟩
  have HB1 := Lib.hid hb1
  clear hb1
  go_wp2_with fail
  refine (HDG.out w1 (hE'.out.below HB1.out)).mono ?_
  rintro e w2 ⟨rfl, hb2⟩
  have HB2 := Lib.hid hb2
  clear hb2
  have hsz : (strOfNums HL).size ≤ 140737488351300 := by rw [← HR.out, z5]; omega
  go_wp2_with (refine wpList_conv rfl (.tmp 12) rfl (strOfNums HL) HL.length HL (by rw [← HR.out]; rfl) HZ.out HBO.out hsz ?_; intro A5 c5 w5 hI5 hc5 hcm5 hb5 _)
  go_ret
  exact ⟨A5, c5, rfl, hI5, (HB1.out.trans (HB2.out.mono HB1.out.size)).trans (hb5.mono (Nat.le_trans HB1.out.size HB2.out.size))⟩
set_option maxRecDepth 100000 in
set_option maxHeartbeats 1000000 in
theorem ridB_any (k : Int) (s : ByteArray) (w : World) (hs : s.size ≤ 140737488351232) : Calls Tryz.prog 15 #[.int .i64 k, .string s] w fun e w' => e = .returned (.string (strOfNums (hexL (shaAll (headL k s.size ++ bytesOf s))))) ∧ Below w.heap.size w w' := by
  have hhl : (headL k s.size).length ≤ 27 := by
    exact headL_19 k s.size (by omega)
  have hml : (headL k s.size ++ bytesOf s).length ≤ 140737488351300 := by rw [List.length_append, bytesOf_len]; omega
  have hmb : Bytes (headL k s.size ++ bytesOf s) := fun x hx => by
    rcases List.mem_append.1 hx with h | h
    · exact headL_ok _ _ x h
    · exact bytesOf_ok s x h
  have HH := Lib.hid (fun w => headerN_any k s.size w (by omega))
  have HS := Lib.hid (fun w => oidSum_any (headL k s.size ++ bytesOf s) w hmb hml)
  have HX := Lib.hid (fun w A c hI => hexR_any A 20 c (shaAll (headL k s.size ++ bytesOf s)) w hI (oid_sha_len _) (oid_sha_bytes _) (by decide))
  have z1 : (strOfNums (headL k s.size)).size ≤ 27 := by rw [strOfNums_size]; exact hhl
  have HC : Hid (strOfNums (headL k s.size) ++ s = strOfNums (headL k s.size ++ bytesOf s)) := Lib.hid (by rw [← str_app, strOfNums_bytes])
  generalize strOfNums (headL k s.size) = S1 at *
  clear hhl hml hmb
  go_enter Tryz.func15, Tryz.ntmps15
  go_wp2_with fail
  refine (HH.out w).mono ?_
  rintro e w1 ⟨rfl, hb1⟩
  have HB1 := Lib.hid hb1
  clear hb1
  have HSS := Lib.hid (HS.out w1)
  rw [← HC.out] at HSS
  obtain ⟨S2, hS2⟩ : ∃ S2, S1 ++ s = S2 := ⟨_, rfl⟩
  rw [hS2] at HSS
  go_wp2_with fail
  refine HSS.out.mono ?_
  rintro e w2 ⟨A2, c2, rfl, ho2, hb2⟩
  have HXX := Lib.hid (HX.out w2 A2 c2 ho2.ints)
  rw [oid_sha_len]
  have HB2 := Lib.hid hb2
  clear ho2 hb2 hS2
  go_wp2_with fail
  refine HXX.out.mono ?_
  rintro e w3 ⟨rfl, hb3⟩
  have HB3 := Lib.hid hb3
  clear hb3
  go_wp2
  go_ret
  exact ⟨rfl, HB1.out.trans ((HB2.out.trans (HB3.out.mono HB2.out.size)).mono HB1.out.size)⟩
set_option maxRecDepth 100000 in
set_option maxHeartbeats 1000000 in
theorem oidB_any (k : Int) (A : Option Addr) (n c : Nat) (xs : List Int) (w : World) (hE : EnvO w) (hI : Ints .u8 w A xs) (hn : xs.length = n) (hb : Bytes xs) (hsz : n ≤ 140737488351232) :
    Calls Tryz.prog 8 #[.int .i64 k, .slice A n c] w fun e w' => e = .returned (.string (oidS k xs)) ∧ Below w.heap.size w w' := by
  have hhl : (headL k n).length ≤ 27 := by
    exact headL_19 k n (by omega)
  have HHL := Lib.hid hhl
  have HHB := Lib.hid (headL_ok k n)
  have HH := Lib.hid (fun w hE => headN_any k n w hE (by omega))
  have HRES : Hid (oidS k xs = strOfNums (hexL (shaAll (headL k n ++ xs)))) := Lib.hid (by rw [← hn]; rfl)
  have HI := Lib.hid hI
  have HN := Lib.hid hn
  have HX := Lib.hid hb
  have HE := Lib.hid hE
  generalize oidS k xs = RES at *
  generalize headL k n = HL at *
  clear hI hn hb hE hhl
  go_enter Tryz.func8, Tryz.ntmps8
  go_wp2_with fail
  refine (new_sha w).mono ?_
  rintro e w1 ⟨rfl, hs1, hb1⟩
  have HS1 := Lib.hid hs1
  have HB1 := Lib.hid hb1
  clear hs1 hb1
  go_wp2_with fail
  refine (HH.out w1 (HE.out.below HB1.out)).mono ?_
  rintro e w2 ⟨A2, c2, rfl, hI2, hb2⟩
  have HS2 := Lib.hid (HS1.out.below hb2)
  have HB2 := Lib.hid (HB1.out.trans (hb2.mono HB1.out.size))
  have HI2 := Lib.hid hI2
  clear hI2 hb2
  go_wp2_with fail
  refine (put_sha [] w.heap.size _ A2 HL.length c2 HL w2 HS2.out HI2.out rfl (fun x hx => by cases hx) HHB.out (by have := HHL.out; simp; omega)).mono ?_
  rintro e w3 ⟨rfl, v3, hs3, hc3, hv3⟩
  rw [List.nil_append] at hs3
  have HS3 := Lib.hid hs3
  have HB3 : Hid (Below w.heap.size w w3) := Lib.hid (HB2.out.trans (hc3.below (B := w.heap.size) HB2.out.size (fun j hj hh => by rcases hh with rfl | hh; exact Nat.lt_irrefl _ hj; cases hh)))
  have HV3 : Hid (∀ k, v3.ownBlock = some k → w.heap.size ≤ k) := Lib.hid (fun k hk => by
    rcases hv3 with h | h
    · rw [hk] at h; cases h
    · exact Nat.le_trans HB2.out.size (h k hk))
  clear hs3 hc3 hv3
  go_wp2_with fail
  refine (put_sha HL w.heap.size v3 A n c xs w3 HS3.out (HI.out.below HB3.out) HN.out HHB.out HX.out (by have := HHL.out; omega)).mono ?_
  rintro e w4 ⟨rfl, v4, hs4, hc4, hv4⟩
  have HS4 := Lib.hid hs4
  have HC4 := Lib.hid hc4
  clear hs4 hc4 hv4
  go_wp2_with fail
  refine (tell_sha (HL ++ xs) w.heap.size v4 w4 HS4.out (fun x hx => by
    rcases List.mem_append.1 hx with h | h
    · exact HHB.out x h
    · exact HX.out x h) (by have := HHL.out; have := HN.out; rw [List.length_append]; omega)).mono ?_
  rintro e w5 ⟨A5, c5, rfl, ho5, hb5⟩
  have HB4 : Hid (Below w.heap.size w w4) := Lib.hid (HB3.out.trans (HC4.out.below (B := w.heap.size) HB3.out.size (fun j hj hh => by
    rcases hh with rfl | hh
    · exact Nat.lt_irrefl _ hj
    · exact absurd (HV3.out j hh) (by omega))))
  have HB5 := Lib.hid (HB4.out.trans (hb5.mono HB4.out.size))
  have hI5 := ho5.ints
  clear hb5 ho5
  go_wp2_with fail
  refine (hex_any A5 _ c5 (shaAll (HL ++ xs)) w5 hI5 rfl (oid_sha_bytes _) (by rw [oid_sha_len]; decide)).mono ?_
  rintro e w6 ⟨rfl, hb6⟩
  have HB6 := Lib.hid (HB5.out.trans (hb6.mono HB5.out.size))
  clear hb6
  go_wp2
  go_ret
  exact ⟨by rw [HRES.out]; rfl, HB6.out⟩
theorem headerI_any (k z : Int) (w : World) (hz : z ≤ 9223372036854775807) : Calls Tryz.prog 40 #[.int .i64 k, .int .i64 z] w fun e w' => e = .returned (.string (strOfNums (headL k z.toNat))) ∧ Below w.heap.size w w' := by
  by_cases h : z < 0
  · rw [show z.toNat = 0 by omega]; exact headerM_any k z h w
  · obtain ⟨n, rfl⟩ : ∃ n : Nat, z = n := ⟨z.toNat, by omega⟩
    exact headerN_any k n w (by omega)
theorem headI_any (k z : Int) (w : World) (hE : EnvO w) (hz : z ≤ 9223372036854775807) : Calls Tryz.prog 27 #[.int .i64 k, .int .i64 z] w fun e w' => ∃ A c, e = .returned (.slice A (headL k z.toNat).length c) ∧ Ints .u8 w' A (headL k z.toNat) ∧ Below w.heap.size w w' := by
  by_cases h : z < 0
  · rw [show z.toNat = 0 by omega]; exact headM_any k z h w hE
  · obtain ⟨n, rfl⟩ : ∃ n : Nat, z = n := ⟨z.toNat, by omega⟩
    exact headN_any k n w hE (by omega)
end Go.Proofs.YtdlabapfcghfmaaGreatDoor
