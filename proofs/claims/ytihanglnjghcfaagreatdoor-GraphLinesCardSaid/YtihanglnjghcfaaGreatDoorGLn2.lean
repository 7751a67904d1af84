/- Plain laws on SHA-1: taken block by block, or with its padding at once, it is the same; the sum of no bytes. -/
import Derived.Test.YtihanglnjghcfaaGreatDoorGLn1
import Derived.Test.YtihanglnjghcfaaGreatDoorGLn0
import Derived.Shelf.Strings.Trim
import Derived.Shelf.Small.Utf8
import Derived.Shelf.Small.Bits
import Derived.Shelf.Small.Strs
import Derived.Shelf.Small.Wraps
import Derived.Shelf.Utf8.RuneCount
import Derived.Shelf.Strconv.Itoa0
import Derived.Shelf.Strings.Search1
import Derived.Shelf.Strings.Search2
import Derived.Shelf.Strings.Cut
import Derived.Shelf.LaysM
import Derived.Shelf.Strings.Shaped
import Derived.Shelf.Strings.Prefix
import Derived.Shelf.Unicode.Decode
import Derived.Shelf.Strings.Runes
import Derived.Shelf.Unicode.ValidAny
import Derived.Shelf.Strings.RuneCount
import Derived.Shelf.Strings.IndexAny
import Derived.Shelf.Strings.AsciiSet
import Derived.Shelf.Strings.IndexAnyAll
import Derived.Shelf.Unicode.DecodeSlow
import Derived.Shelf.Unicode.DecodeAny
import Derived.Shelf.Unicode.DecodeLast
import Derived.Shelf.Slices.Turned
import Derived.Test.YtihanglnjghcfaaGreatDoorProg
import Derived.Shelf.SlSorted.Search
import Derived.Test.YtihanglnjghcfaaGreatDoorRows
import Derived.ProofKit
import Derived.OpenShut
import Derived.ShutString
import Derived.ChangeOld
import Derived.SizedLaws
import Derived.JoinedCond
import Derived.Lib.LaidU8T
import Derived.Maps.Own
namespace Go.Proofs.YtihanglnjghcfaaGreatDoor
open Go.RowKit
set_option linter.unusedVariables false

theorem wordAt_app (x y : List Int) (h : 64 ≤ x.length) (t : Nat) (ht : t < 16) : wordAt (x ++ y) t = wordAt x t := by
 have e : ∀ j, j < 64 → (x ++ y).getD j 0 = x.getD j 0 := fun j hj => by
  rw [List.getD_eq_getElem?_getD, List.getD_eq_getElem?_getD, List.getElem?_append_left (by omega)]
 unfold wordAt
 rw [e _ (by omega), e _ (by omega), e _ (by omega), e _ (by omega)]
theorem schedTo_app (x y : List Int) (h : 64 ≤ x.length) (t : Nat) : schedTo (x ++ y) t = schedTo x t := by
 induction t with
 | zero => rfl
 | succ t ih =>
  rw [schedTo, schedTo, ih]
  by_cases ht : t < 16
  · rw [if_pos ht, if_pos ht, wordAt_app x y h t ht]
  · rw [if_neg ht, if_neg ht]
theorem runH_app (x y : List Int) (h : 64 ≤ x.length) (s : H5) (t : Nat) : runH (x ++ y) s t = runH x s t := by
 induction t with
 | zero => rfl
 | succ t ih => rw [runH, runH, ih, stepH, stepH, schedTo_app x y h]
theorem mixH_app (x y : List Int) (h : 64 ≤ x.length) (s : H5) : mixH s (x ++ y) = mixH s x := by
 unfold mixH; rw [runH_app x y h]
theorem fb_app (n : Nat) : ∀ (s : H5) (x y : List Int), 64 * n ≤ x.length → fb n s (x ++ y) = fb n s x := by
 induction n with
 | zero => intro s x y h; rfl
 | succ n ih =>
  intro s x y h
  rw [fb, fb, mixH_app x y (by omega), List.drop_append_of_le_length (by omega), ih _ _ _ (by simp; omega)]
theorem fb_add (a b : Nat) : ∀ (s : H5) (r : List Int), fb (a + b) s r = fb b (fb a s r) (r.drop (64 * a)) := by
 induction a with
 | zero => intro s r; simp [fb]
 | succ a ih =>
  intro s r
  rw [show a + 1 + b = (a + b) + 1 by omega, fb, ih, fb, List.drop_drop]
  congr 2
  omega
theorem shaMsg_len (r : List Int) (n : Int) : (shaMsg r n).length = r.length + 1 + padN r.length + 8 := by
 unfold shaMsg
 rw [List.length_append, List.length_append, padTo_len]
 rfl
theorem shaMsg_split (xs ys : List Int) (n : Int) (h : padN (xs ++ ys).length = padN ys.length) : shaMsg (xs ++ ys) n = xs ++ shaMsg ys n := by
 unfold shaMsg padTo
 rw [h]
 simp
theorem shaAll_eq (xs : List Int) : shaAll xs = shaTo (fb ((shaMsg xs (xs.length : Int)).length / 64) h0 (shaMsg xs (xs.length : Int))) 5 := by
 have hq : 64 * (xs.length / 64) ≤ xs.length := by omega
 have hd : (xs.drop (64 * (xs.length / 64))).length = xs.length % 64 := by rw [List.length_drop]; omega
 have ht : (xs.take (64 * (xs.length / 64))).length = 64 * (xs.length / 64) := List.length_take_of_le hq
 have e : shaMsg xs (xs.length : Int) = xs.take (64 * (xs.length / 64)) ++ shaMsg (xs.drop (64 * (xs.length / 64))) (xs.length : Int) := by
  have := shaMsg_split (xs.take (64 * (xs.length / 64))) (xs.drop (64 * (xs.length / 64))) (xs.length : Int) (by rw [List.take_append_drop, hd]; unfold padN; omega)
  rwa [List.take_append_drop] at this
 unfold shaAll shaOut
 rw [Int.zero_add, ← shaMsg_len (xs.drop (64 * (xs.length / 64))) (xs.length : Int)]
 congr 1
 rw [e]
 generalize shaMsg (xs.drop (64 * (xs.length / 64))) (xs.length : Int) = Y
 have hn : (xs.take (64 * (xs.length / 64)) ++ Y).length / 64 = xs.length / 64 + Y.length / 64 := by rw [List.length_append, ht]; omega
 rw [hn, fb_add, List.drop_append_of_le_length (by omega), List.drop_of_length_le (by omega), List.nil_append, fb_app _ _ _ _ (by omega)]
 congr 1
 have := fb_app (xs.length / 64) h0 (xs.take (64 * (xs.length / 64))) (xs.drop (64 * (xs.length / 64))) (by omega)
 rw [List.take_append_drop] at this
 exact this

/-! ### The sum of no bytes, reckoned in stages -/
end Go.Proofs.YtihanglnjghcfaaGreatDoor
namespace Go.Proofs.YtihanglnjghcfaaGreatDoor
open Go.RowKit
set_option linter.unusedVariables false
set_option linter.unusedSimpArgs false

theorem str_app (a b : List Int) : strOfNums a ++ strOfNums b = strOfNums (a ++ b) := by
 apply ByteArray.ext
 simp [strOfNums, ByteArray.data_append]
/-- A number from nought on, as digits. -/
def digL (n : Nat) : List Int := if n ≤ 9 then [48 + (n : Int)] else digL (n / 10) ++ [48 + ((n % 10 : Nat) : Int)]
termination_by n
theorem digL_big {n : Nat} (h : 9 < n) : digL n = digL (n / 10) ++ [48 + ((n % 10 : Nat) : Int)] := by
 rw [digL, if_neg (by omega)]
theorem digL_small {n : Nat} (h : n ≤ 9) : digL n = [48 + (n : Int)] := by
 rw [digL, if_pos h]
theorem digL_ok : ∀ n : Nat, Bytes (digL n) := by
 intro n
 induction n using Nat.strongRecOn with
 | _ n ih =>
  by_cases h : n ≤ 9
  · rw [digL_small h]
    intro x hx
    rw [List.mem_singleton.1 hx]; omega
  · rw [digL_big (by omega)]
    intro x hx
    rcases List.mem_append.1 hx with hx | hx
    · exact ih (n / 10) (by omega) x hx
    · rw [List.mem_singleton.1 hx]; omega
/-- A kind's name. -/
def nameL (k : Int) : List Int := if k = 1 then [99, 111, 109, 109, 105, 116] else if k = 2 then [116, 114, 101, 101] else if k = 3 then [98, 108, 111, 98] else if k = 4 then [116, 97, 103] else []
theorem nameL_ok (k : Int) : Bytes (nameL k) := by
 intro x hx
 unfold nameL at hx
 split at hx
 · simp only [List.mem_cons, List.not_mem_nil, or_false] at hx; omega
 · split at hx
   · simp only [List.mem_cons, List.not_mem_nil, or_false] at hx; omega
   · split at hx
     · simp only [List.mem_cons, List.not_mem_nil, or_false] at hx; omega
     · split at hx
       · simp only [List.mem_cons, List.not_mem_nil, or_false] at hx; omega
       · cases hx
theorem nameL_len (k : Int) : (nameL k).length ≤ 6 := by
 unfold nameL
 split
 · decide
 · split
   · decide
   · split
     · decide
     · split <;> decide
set_option maxRecDepth 100000 in
set_option maxHeartbeats 4000000 in
theorem rname_any (k : Int) (w : World) : Calls Tryz.prog 55 #[.int .i64 k] w fun e w' => e = .returned (.string (strOfNums (nameL k))) ∧ Below w.heap.size w w' := by
 have hb : ∀ o : Obj, Below w.heap.size w (w.alloc o) := fun o => (Below.refl _ _).alloc (Nat.le_refl _) o
 have HB := Lib.hid hb
 clear hb
 have HN : Hid (nameL k = if k = 1 then [99, 111, 109, 109, 105, 116] else if k = 2 then [116, 114, 101, 101] else if k = 3 then [98, 108, 111, 98] else if k = 4 then [116, 97, 103] else []) := Lib.hid rfl
 by_cases hneg : k < 0
 · have d1 : decide (k < 0) = true := decide_eq_true hneg
   have HN : Hid (nameL k = []) := Lib.hid (by rw [HN.out, if_neg (by omega), if_neg (by omega), if_neg (by omega), if_neg (by omega)])
   go_enter Tryz.func55, Tryz.ntmps55
   go_wp2
   go_ret
   exact ⟨by rw [HN.out]; rfl, HB.out _⟩
 · have d1 : decide (k < 0) = false := decide_eq_false hneg
   by_cases hbig : 4 < k
   · have d2 : decide (4 < k) = true := decide_eq_true hbig
     have HN : Hid (nameL k = []) := Lib.hid (by rw [HN.out, if_neg (by omega), if_neg (by omega), if_neg (by omega), if_neg (by omega)])
     go_enter Tryz.func55, Tryz.ntmps55
     go_wp2
     go_ret
     exact ⟨by rw [HN.out]; rfl, HB.out _⟩
   · have hk : k = 0 ∨ k = 1 ∨ k = 2 ∨ k = 3 ∨ k = 4 := by omega
     clear HN hneg hbig d1
     rcases hk with rfl | rfl | rfl | rfl | rfl <;>
     · go_enter Tryz.func55, Tryz.ntmps55
       go_wp2
       go_ret
       exact ⟨by kernel_rfl, HB.out _⟩
def headL (k : Int) (n : Nat) : List Int := nameL k ++ [32] ++ digL n ++ [0]
theorem headL_ok (k : Int) (n : Nat) : Bytes (headL k n) := by
 intro x hx
 unfold headL at hx
 simp only [List.mem_append] at hx
 rcases hx with ((hx | hx) | hx) | hx
 · exact nameL_ok k x hx
 · rw [List.mem_singleton.1 hx]; omega
 · exact digL_ok n x hx
 · rw [List.mem_singleton.1 hx]; omega
theorem oid_sha_bytes (xs : List Int) : Bytes (shaAll xs) := by
 rw [shaAll_eq]
 intro x hx
 have key : ∀ (k : H5) (hk : k.ok) (n : Nat), Bytes (shaTo k n) := fun k hk n => by
  induction n with
  | zero => intro x hx; cases hx
  | succ n ih =>
   intro x hx
   rcases List.mem_append.1 hx with hx | hx
   · exact ih x hx
   · exact be4_ok _ (H5.nth_ok k hk n).1 (H5.nth_ok k hk n).2 x hx
 exact key _ (fb_ok _ _ _ h0_ok) 5 x hx
theorem oid_sha_len (xs : List Int) : (shaAll xs).length = 20 := by rw [shaAll_eq, shaTo_len]
theorem oidSum_any (xs : List Int) (w : World) (hb : Bytes xs) (hsz : xs.length ≤ 140737488351300) : Calls Tryz.prog 57 #[.string (strOfNums xs)] w (AskPost w (shaAll xs)) := by
 have h := refSha_any (strOfNums xs) w (by rw [strOfNums_size]; exact hsz)
 rw [bytesOf_str xs hb, strOfNums_size, ← shaAll_eq] at h
 exact h
end Go.Proofs.YtihanglnjghcfaaGreatDoor
namespace Go.Proofs.YtihanglnjghcfaaGreatDoor
open Go.RowKit
set_option linter.unusedVariables false
set_option linter.unusedSimpArgs false

def namesV : Value := .agg #[.string ⟨#[]⟩, .string ⟨#[99, 111, 109, 109, 105, 116]⟩, .string ⟨#[116, 114, 101, 101]⟩, .string ⟨#[98, 108, 111, 98]⟩, .string ⟨#[116, 97, 103]⟩]
set_option maxRecDepth 100000 in
theorem names_any (w : World) : Calls Tryz.prog 132 #[] w fun e w' => e = .returned namesV ∧ Below w.heap.size w w' := by
 go_enter Tryz.func132, Tryz.ntmps132
 go_wp2
 have hc := Cel.new w 182 #[.string ⟨#[]⟩, .string ⟨#[99, 111, 109, 109, 105, 116]⟩, .string ⟨#[116, 114, 101, 101]⟩, .string ⟨#[98, 108, 111, 98]⟩, .string ⟨#[116, 97, 103]⟩] (fun i => (#[.string ⟨#[]⟩, .string ⟨#[99, 111, 109, 109, 105, 116]⟩, .string ⟨#[116, 114, 101, 101]⟩, .string ⟨#[98, 108, 111, 98]⟩, .string ⟨#[116, 97, 103]⟩] : Array Value).getD i undef) (fun i hi => by
  have : i = 0 ∨ i = 1 ∨ i = 2 ∨ i = 3 ∨ i = 4 := by simp at hi; omega
  rcases this with rfl | rfl | rfl | rfl | rfl <;> rfl)
 exact bodyPost_ret (v := namesV) (results_cel rfl _ rfl hc Tryz.underlying182 rfl (by kernel_rfl) (Nat.le_refl 5) (fun j hj => by
  have : j = 0 ∨ j = 1 ∨ j = 2 ∨ j = 3 ∨ j = 4 := by simp at hj; omega
  rcases this with rfl | rfl | rfl | rfl | rfl <;> rfl)) rfl ⟨rfl, (Below.refl _ _).alloc (Nat.le_refl _) _⟩
theorem name_ix0 (w : World) : (Instr.index 182 namesV (.int .i64 ((0 : Nat) : Int))).run Tryz.prog w = .ok (.string (strOfNums (nameL ((0 : Nat) : Int)))) w := by kernel_rfl
theorem name_ix1 (w : World) : (Instr.index 182 namesV (.int .i64 ((1 : Nat) : Int))).run Tryz.prog w = .ok (.string (strOfNums (nameL ((1 : Nat) : Int)))) w := by kernel_rfl
theorem name_ix2 (w : World) : (Instr.index 182 namesV (.int .i64 ((2 : Nat) : Int))).run Tryz.prog w = .ok (.string (strOfNums (nameL ((2 : Nat) : Int)))) w := by kernel_rfl
theorem name_ix3 (w : World) : (Instr.index 182 namesV (.int .i64 ((3 : Nat) : Int))).run Tryz.prog w = .ok (.string (strOfNums (nameL ((3 : Nat) : Int)))) w := by kernel_rfl
theorem name_ix4 (w : World) : (Instr.index 182 namesV (.int .i64 ((4 : Nat) : Int))).run Tryz.prog w = .ok (.string (strOfNums (nameL ((4 : Nat) : Int)))) w := by kernel_rfl
theorem name_ix (k : Nat) (hk : k < 5) (w : World) : (Instr.index 182 namesV (.int .i64 (k : Int))).run Tryz.prog w = .ok (.string (strOfNums (nameL k))) w := by
 have : k = 0 ∨ k = 1 ∨ k = 2 ∨ k = 3 ∨ k = 4 := by omega
 rcases this with rfl | rfl | rfl | rfl | rfl
 · exact name_ix0 w
 · exact name_ix1 w
 · exact name_ix2 w
 · exact name_ix3 w
 · exact name_ix4 w
end Go.Proofs.YtihanglnjghcfaaGreatDoor
namespace Go.Proofs
open Go.Shelf
def Tryz.lays196_ren : Go.Shelf.Ren := ⟨fun | 196 => 123 | 259 => 135 | n => n, fun | 9 => 9 | 4 => 4 | 3 => 3 | 5 => 5 | 12 => 12 | 119 => 189 | 0 => 0 | 46 => 77 | 139 => 192 | 138 => 191 | 53 => 138 | n => n, fun | 3 => 1 | 4 => 2 | n => n⟩
theorem Tryz.lays196 : Go.Proofs.Lays.n196 Tryz.prog Tryz.lays196_ren := {
 mixed := by kernel_rfl
 f196 := Tryz.func123.trans (congrArg some (by kernel_rfl))
 f259 := Tryz.func135.trans (congrArg some (by kernel_rfl))
 t0 := Tryz.underlying0
 a0 := Tryz.isAgg0
 z0 := Tryz.sizeOf0
 v0 := Tryz.zeroValue0
 t3 := Tryz.underlying3
 a3 := Tryz.isAgg3
 z3 := Tryz.sizeOf3
 v3 := Tryz.zeroValue3
 t4 := Tryz.underlying4
 a4 := Tryz.isAgg4
 z4 := Tryz.sizeOf4
 v4 := Tryz.zeroValue4
 t5 := Tryz.underlying5
 a5 := Tryz.isAgg5
 z5 := Tryz.sizeOf5
 v5 := Tryz.zeroValue5
 t9 := Tryz.underlying9
 a9 := Tryz.isAgg9
 z9 := Tryz.sizeOf9
 v9 := Tryz.zeroValue9
 t12 := Tryz.underlying12
 a12 := Tryz.isAgg12
 z12 := Tryz.sizeOf12
 v12 := Tryz.zeroValue12
 t46 := Tryz.underlying77
 a46 := Tryz.isAgg77
 z46 := Tryz.sizeOf77
 v46 := Tryz.zeroValue77
 t53 := Tryz.underlying138
 a53 := Tryz.isAgg138
 z53 := Tryz.sizeOf138
 v53 := Tryz.zeroValue138
 t119 := Tryz.underlying189
 a119 := Tryz.isAgg189
 z119 := Tryz.sizeOf189
 t138 := Tryz.underlying191
 a138 := Tryz.isAgg191
 z138 := Tryz.sizeOf191
 v138 := Tryz.zeroValue191
 t139 := Tryz.underlying192
 a139 := Tryz.isAgg192
 z139 := Tryz.sizeOf192
 v139 := Tryz.zeroValue192
 g3 := by kernel_rfl
 g4 := by kernel_rfl }
def Tryz.lays160_ren : Go.Shelf.Ren := ⟨fun | 160 => 124 | 232 => 137 | 231 => 136 | 227 => 138 | 234 => 140 | 233 => 139 | 236 => 142 | 235 => 141 | 228 => 148 | 271 => 151 | 151 => 150 | 197 => 149 | 120 => 157 | 152 => 154 | 260 => 156 | 137 => 130 | 119 => 161 | 224 => 159 | 225 => 158 | 217 => 146 | 266 => 153 | n => n, fun | 9 => 9 | 4 => 4 | 3 => 3 | 5 => 5 | 117 => 196 | 116 => 195 | 0 => 0 | 124 => 199 | 21 => 21 | 105 => 204 | 46 => 77 | 119 => 189 | 139 => 192 | 138 => 191 | n => n, fun | 3 => 1 | 4 => 2 | n => n⟩
theorem Tryz.lays160 : Go.Proofs.Lays.n160 Tryz.prog Tryz.lays160_ren := {
 mixed := by kernel_rfl
 f119 := Tryz.func161.trans (congrArg some (by kernel_rfl))
 f120 := Tryz.func157.trans (congrArg some (by kernel_rfl))
 f137 := Tryz.func130.trans (congrArg some (by kernel_rfl))
 f151 := Tryz.func150.trans (congrArg some (by kernel_rfl))
 f152 := Tryz.func154.trans (congrArg some (by kernel_rfl))
 f160 := Tryz.func124.trans (congrArg some (by kernel_rfl))
 f197 := Tryz.func149.trans (congrArg some (by kernel_rfl))
 f217 := Tryz.func146.trans (congrArg some (by kernel_rfl))
 f224 := Tryz.func159.trans (congrArg some (by kernel_rfl))
 f225 := Tryz.func158.trans (congrArg some (by kernel_rfl))
 f227 := Tryz.func138.trans (congrArg some (by kernel_rfl))
 f228 := Tryz.func148.trans (congrArg some (by kernel_rfl))
 f231 := Tryz.func136.trans (congrArg some (by kernel_rfl))
 f232 := Tryz.func137.trans (congrArg some (by kernel_rfl))
 f233 := Tryz.func139.trans (congrArg some (by kernel_rfl))
 f234 := Tryz.func140.trans (congrArg some (by kernel_rfl))
 f235 := Tryz.func141.trans (congrArg some (by kernel_rfl))
 f236 := Tryz.func142.trans (congrArg some (by kernel_rfl))
 f260 := Tryz.func156.trans (congrArg some (by kernel_rfl))
 f266 := Tryz.func153.trans (congrArg some (by kernel_rfl))
 f271 := Tryz.func151.trans (congrArg some (by kernel_rfl))
 t0 := Tryz.underlying0
 a0 := Tryz.isAgg0
 z0 := Tryz.sizeOf0
 v0 := Tryz.zeroValue0
 t3 := Tryz.underlying3
 a3 := Tryz.isAgg3
 z3 := Tryz.sizeOf3
 v3 := Tryz.zeroValue3
 t4 := Tryz.underlying4
 a4 := Tryz.isAgg4
 z4 := Tryz.sizeOf4
 v4 := Tryz.zeroValue4
 t5 := Tryz.underlying5
 a5 := Tryz.isAgg5
 z5 := Tryz.sizeOf5
 v5 := Tryz.zeroValue5
 t9 := Tryz.underlying9
 a9 := Tryz.isAgg9
 z9 := Tryz.sizeOf9
 v9 := Tryz.zeroValue9
 t21 := Tryz.underlying21
 a21 := Tryz.isAgg21
 z21 := Tryz.sizeOf21
 v21 := Tryz.zeroValue21
 t46 := Tryz.underlying77
 a46 := Tryz.isAgg77
 z46 := Tryz.sizeOf77
 v46 := Tryz.zeroValue77
 t105 := Tryz.underlying204
 a105 := Tryz.isAgg204
 z105 := Tryz.sizeOf204
 v105 := Tryz.zeroValue204
 t116 := Tryz.underlying195
 a116 := Tryz.isAgg195
 z116 := Tryz.sizeOf195
 t117 := Tryz.underlying196
 a117 := Tryz.isAgg196
 z117 := Tryz.sizeOf196
 v117 := Tryz.zeroValue196
 t119 := Tryz.underlying189
 a119 := Tryz.isAgg189
 z119 := Tryz.sizeOf189
 t124 := Tryz.underlying199
 a124 := Tryz.isAgg199
 z124 := Tryz.sizeOf199
 v124 := Tryz.zeroValue199
 t138 := Tryz.underlying191
 a138 := Tryz.isAgg191
 z138 := Tryz.sizeOf191
 v138 := Tryz.zeroValue191
 t139 := Tryz.underlying192
 a139 := Tryz.isAgg192
 z139 := Tryz.sizeOf192
 v139 := Tryz.zeroValue192
 g3 := by kernel_rfl
 g4 := by kernel_rfl }
open Go.RowKit in
/-- strings.Trim: "Trim returns a slice of the string s with all leading and trailing Unicode code points contained in cutset removed.": AT A cutset OF ONE ASCII BYTE. THE WORLD BEHIND IT: as it was, or (where s is not empty) with ONE DRAW MORE off the tape: the statement 'return trimLeftByte(trimRightByte(s, c), c)' draws its order of evaluation. (LAID: no walk: one application.) -/
theorem Tryz.strings_Trim_one (s : ByteArray) (c : UInt8) (hc : c.toNat < 128) (w : World) (hs : s.size ≤ 9223372036854775807) :
 Calls Tryz.prog 124 #[.string s, .string ⟨#[c]⟩] w fun e w' => e = .returned (.string ⟨(Lib.trimB s.data.toList c).toArray⟩) ∧ (w' = w ∨ w' = w.drew) := Any.strings_Trim_one Tryz.lays160 s c hc w hs
def Tryz.lays119_ren : Go.Shelf.Ren := ⟨fun | 119 => 161 | n => n, fun | 21 => 21 | 4 => 4 | n => n, fun | n => n⟩
theorem Tryz.lays119 : Go.Proofs.Lays.n119 Tryz.prog Tryz.lays119_ren := {
 mixed := by kernel_rfl
 f119 := Tryz.func161.trans (congrArg some (by kernel_rfl))
 t4 := Tryz.underlying4
 a4 := Tryz.isAgg4
 z4 := Tryz.sizeOf4
 v4 := Tryz.zeroValue4
 t21 := Tryz.underlying21
 a21 := Tryz.isAgg21
 z21 := Tryz.sizeOf21
 v21 := Tryz.zeroValue21 }
/-- utf8.ValidRune: "ValidRune reports whether r can be legally encoded as UTF-8. Code points that are out of range or a surrogate half are illegal.": IT RETURNS 'Lib.validRune r'; the world is as it was. (LAID: no walk: one application.) -/
theorem Tryz.utf8_ValidRune (r : Int) (w : World) :
 Calls Tryz.prog 161 #[.int .i32 r] w fun e w' => e = .returned (.bool (Lib.validRune r)) ∧ w' = w := Any.utf8_ValidRune Tryz.lays119 r w
def Tryz.lays137_ren : Go.Shelf.Ren := ⟨fun | 137 => 130 | 217 => 146 | 266 => 153 | n => n, fun | 9 => 9 | 5 => 5 | 3 => 3 | n => n, fun | n => n⟩
theorem Tryz.lays137 : Go.Proofs.Lays.n137 Tryz.prog Tryz.lays137_ren := {
 mixed := by kernel_rfl
 f137 := Tryz.func130.trans (congrArg some (by kernel_rfl))
 f217 := Tryz.func146.trans (congrArg some (by kernel_rfl))
 f266 := Tryz.func153.trans (congrArg some (by kernel_rfl))
 t3 := Tryz.underlying3
 a3 := Tryz.isAgg3
 z3 := Tryz.sizeOf3
 v3 := Tryz.zeroValue3
 t5 := Tryz.underlying5
 a5 := Tryz.isAgg5
 z5 := Tryz.sizeOf5
 v5 := Tryz.zeroValue5
 t9 := Tryz.underlying9
 a9 := Tryz.isAgg9
 z9 := Tryz.sizeOf9
 v9 := Tryz.zeroValue9 }
open Go.RowKit in
/-- strings.IndexByte: "IndexByte returns the index of the first instance of c in s, or -1 if c is not present in s.": IT RETURNS 'Lib.indexByte s c'; the world is as it was. (LAID: no walk: one application.) -/
theorem Tryz.strings_IndexByte (s : ByteArray) (c : Int) (w : World) :
 Calls Tryz.prog 130 #[.string s, .int .u8 c] w fun e w' => e = .returned (.int .i64 (Lib.indexByte s.data.toList c.toNat.toUInt8)) ∧ w' = w := Any.strings_IndexByte Tryz.lays137 s c w
def Tryz.lays103_ren : Go.Shelf.Ren := ⟨fun | 103 => 112 | 210 => 129 | 206 => 145 | n => n, fun | 9 => 9 | 4 => 4 | 24 => 168 | 3 => 3 | n => n, fun | n => n⟩
theorem Tryz.lays103 : Go.Proofs.Lays.n103 Tryz.prog Tryz.lays103_ren := {
 mixed := by kernel_rfl
 f103 := Tryz.func112.trans (congrArg some (by kernel_rfl))
 f206 := Tryz.func145.trans (congrArg some (by kernel_rfl))
 f210 := Tryz.func129.trans (congrArg some (by kernel_rfl))
 t3 := Tryz.underlying3
 a3 := Tryz.isAgg3
 z3 := Tryz.sizeOf3
 v3 := Tryz.zeroValue3
 t4 := Tryz.underlying4
 a4 := Tryz.isAgg4
 z4 := Tryz.sizeOf4
 v4 := Tryz.zeroValue4
 t9 := Tryz.underlying9
 a9 := Tryz.isAgg9
 z9 := Tryz.sizeOf9
 v9 := Tryz.zeroValue9
 t24 := Tryz.underlying168
 a24 := Tryz.isAgg168
 z24 := Tryz.sizeOf168
 v24 := Tryz.zeroValue168 }
open Go.RowKit in
/-- strings.CutPrefix: "CutPrefix returns s without the provided leading prefix string and reports whether it found the prefix. If s doesn't start with prefix, CutPrefix returns s, false. If prefix is the empty string, CutPrefix returns s, true.": IT RETURNS '(Lib.trimPrefix s p, Lib.hasPrefix s p)'; the world is as it was. (LAID: no walk: one application.) -/
theorem Tryz.strings_CutPrefix (s p : ByteArray) (w : World) :
 Calls Tryz.prog 112 #[.string s, .string p] w fun e w' => e = .returned (.tuple #[.string ⟨(Lib.trimPrefix s.data.toList p.data.toList).toArray⟩, .bool (Lib.hasPrefix s.data.toList p.data.toList)]) ∧ w' = w := Any.strings_CutPrefix Tryz.lays103 s p w
def Tryz.lays195_ren : Go.Shelf.Ren := ⟨fun | 195 => 133 | n => n, fun | 9 => 9 | 3 => 3 | 0 => 0 | 4 => 4 | n => n, fun | n => n⟩
theorem Tryz.lays195 : Go.Proofs.Lays.n195 Tryz.prog Tryz.lays195_ren := {
 mixed := by kernel_rfl
 f195 := Tryz.func133.trans (congrArg some (by kernel_rfl))
 t0 := Tryz.underlying0
 a0 := Tryz.isAgg0
 z0 := Tryz.sizeOf0
 v0 := Tryz.zeroValue0
 t3 := Tryz.underlying3
 a3 := Tryz.isAgg3
 z3 := Tryz.sizeOf3
 v3 := Tryz.zeroValue3
 t4 := Tryz.underlying4
 a4 := Tryz.isAgg4
 z4 := Tryz.sizeOf4
 v4 := Tryz.zeroValue4
 t9 := Tryz.underlying9
 a9 := Tryz.isAgg9
 z9 := Tryz.sizeOf9
 v9 := Tryz.zeroValue9 }
open Go.RowKit in
/-- unicode/utf8.RuneCountInString: "RuneCountInString is like RuneCount but its input is a string." ("RuneCount returns the number of runes in p. Erroneous and short encodings are treated as single runes of width 1 byte."): EVERY STRING, valid UTF-8 or not: 'Lib.runeCount s' (plain Lean over the model's own 'Utf8.decode'; 'Lib.runeCount_le': at most len(s); 'Lib.runeCount_ascii': on ASCII: len(s)). THE ONE CONDITION: len(s) below 2^63 - 1 (the counter does not wrap): the form's reach pays it. THE WORLD BEHIND THE CALL: ONE BLOCK MORE: the model's iterator over s, at its end: all else as it was. (LAID: no walk: one application.) -/
theorem Tryz.utf8_RuneCountInString (s : ByteArray) (w : World) (hs : s.size < 9223372036854775807) :
 Calls Tryz.prog 133 #[.string s] w fun e w' => e = .returned (.int .i64 (Lib.runeCount s)) ∧ ∃ pos, w' = w.iter s pos := Any.utf8_RuneCountInString Tryz.lays195 s w hs
def Tryz.lays219_ren : Go.Shelf.Ren := ⟨fun | 219 => 152 | 217 => 146 | 225 => 158 | 224 => 159 | 267 => 160 | 266 => 153 | 314 => 162 | n => n, fun | 9 => 9 | 3 => 3 | 4 => 4 | 5 => 5 | 46 => 77 | 146 => 210 | 51 => 140 | n => n, fun | 1 => 0 | n => n⟩
theorem Tryz.lays219 : Go.Proofs.Lays.n219 Tryz.prog Tryz.lays219_ren := {
 mixed := by kernel_rfl
 f217 := Tryz.func146.trans (congrArg some (by kernel_rfl))
 f219 := Tryz.func152.trans (congrArg some (by kernel_rfl))
 f224 := Tryz.func159.trans (congrArg some (by kernel_rfl))
 f225 := Tryz.func158.trans (congrArg some (by kernel_rfl))
 f266 := Tryz.func153.trans (congrArg some (by kernel_rfl))
 f267 := Tryz.func160.trans (congrArg some (by kernel_rfl))
 f314 := Tryz.func162.trans (congrArg some (by kernel_rfl))
 t3 := Tryz.underlying3
 a3 := Tryz.isAgg3
 z3 := Tryz.sizeOf3
 v3 := Tryz.zeroValue3
 t4 := Tryz.underlying4
 a4 := Tryz.isAgg4
 z4 := Tryz.sizeOf4
 v4 := Tryz.zeroValue4
 t5 := Tryz.underlying5
 a5 := Tryz.isAgg5
 z5 := Tryz.sizeOf5
 v5 := Tryz.zeroValue5
 t9 := Tryz.underlying9
 a9 := Tryz.isAgg9
 z9 := Tryz.sizeOf9
 v9 := Tryz.zeroValue9
 t46 := Tryz.underlying77
 a46 := Tryz.isAgg77
 z46 := Tryz.sizeOf77
 v46 := Tryz.zeroValue77
 t51 := Tryz.underlying140
 a51 := Tryz.isAgg140
 z51 := Tryz.sizeOf140
 v51 := Tryz.zeroValue140
 t146 := Tryz.underlying210
 a146 := Tryz.isAgg210
 z146 := Tryz.sizeOf210
 v146 := Tryz.zeroValue210
 g1 := by kernel_rfl }
open Go.RowKit Go.Lib in
/-- internal/stringslite.Index (what strings.Index calls) AT A substr OF ONE BYTE c: IT RETURNS 'Lib.indexByte s c'; the world is as it was. (LAID: no walk: one application.) -/
theorem Tryz.stringslite_Index_one (s : ByteArray) (c : UInt8) (w : World) :
 Calls Tryz.prog 152 #[.string s, .string ⟨#[c]⟩] w fun e w' => e = .returned (.int .i64 (Lib.indexByte s.data.toList c)) ∧ w' = w := Any.stringslite_Index_one Tryz.lays219 s c w
def Tryz.lays152_ren : Go.Shelf.Ren := ⟨fun | 152 => 154 | 137 => 130 | 119 => 161 | 224 => 159 | 225 => 158 | 217 => 146 | 266 => 153 | n => n, fun | 9 => 9 | 21 => 21 | 3 => 3 | 4 => 4 | 5 => 5 | 0 => 0 | 46 => 77 | n => n, fun | n => n⟩
theorem Tryz.lays152 : Go.Proofs.Lays.n152 Tryz.prog Tryz.lays152_ren := {
 mixed := by kernel_rfl
 f119 := Tryz.func161.trans (congrArg some (by kernel_rfl))
 f137 := Tryz.func130.trans (congrArg some (by kernel_rfl))
 f152 := Tryz.func154.trans (congrArg some (by kernel_rfl))
 f217 := Tryz.func146.trans (congrArg some (by kernel_rfl))
 f224 := Tryz.func159.trans (congrArg some (by kernel_rfl))
 f225 := Tryz.func158.trans (congrArg some (by kernel_rfl))
 f266 := Tryz.func153.trans (congrArg some (by kernel_rfl))
 t0 := Tryz.underlying0
 a0 := Tryz.isAgg0
 z0 := Tryz.sizeOf0
 v0 := Tryz.zeroValue0
 t3 := Tryz.underlying3
 a3 := Tryz.isAgg3
 z3 := Tryz.sizeOf3
 v3 := Tryz.zeroValue3
 t4 := Tryz.underlying4
 a4 := Tryz.isAgg4
 z4 := Tryz.sizeOf4
 v4 := Tryz.zeroValue4
 t5 := Tryz.underlying5
 a5 := Tryz.isAgg5
 z5 := Tryz.sizeOf5
 v5 := Tryz.zeroValue5
 t9 := Tryz.underlying9
 a9 := Tryz.isAgg9
 z9 := Tryz.sizeOf9
 v9 := Tryz.zeroValue9
 t21 := Tryz.underlying21
 a21 := Tryz.isAgg21
 z21 := Tryz.sizeOf21
 v21 := Tryz.zeroValue21
 t46 := Tryz.underlying77
 a46 := Tryz.isAgg77
 z46 := Tryz.sizeOf77
 v46 := Tryz.zeroValue77 }
open Go.RowKit Go.Lib in
theorem Tryz.strings_IndexRune_ascii (s : ByteArray) (r : Int) (w : World) (h0 : 0 ≤ r) (h1 : r < 128) :
 Calls Tryz.prog 154 #[.string s, .int .i32 r] w fun e w' => e = .returned (.int .i64 (Lib.indexByte s.data.toList r.toNat.toUInt8)) ∧ w' = w := Any.strings_IndexRune_ascii Tryz.lays152 s r w h0 h1
def Tryz.lays226_ren : Go.Shelf.Ren := ⟨fun | 226 => 155 | n => n, fun | 3 => 3 | 4 => 4 | n => n, fun | n => n⟩
theorem Tryz.lays226 : Go.Proofs.Lays.n226 Tryz.prog Tryz.lays226_ren := {
 mixed := by kernel_rfl
 f226 := Tryz.func155.trans (congrArg some (by kernel_rfl))
 t3 := Tryz.underlying3
 a3 := Tryz.isAgg3
 z3 := Tryz.sizeOf3
 v3 := Tryz.zeroValue3
 t4 := Tryz.underlying4
 a4 := Tryz.isAgg4
 z4 := Tryz.sizeOf4
 v4 := Tryz.zeroValue4 }
open Go.RowKit Go.Lib in
theorem Tryz.strings_shouldUseASCIISet (n : Int) (w : World) :
 Calls Tryz.prog 155 #[.int .i64 n] w fun e w' => e = .returned (.bool (decide (8 < n))) ∧ w' = w := Any.strings_shouldUseASCIISet Tryz.lays226 n w
def Tryz.lays153_ren : Go.Shelf.Ren := ⟨fun | 153 => 147 | 152 => 154 | 226 => 155 | 227 => 138 | 228 => 148 | 137 => 130 | 119 => 161 | 224 => 159 | 225 => 158 | 217 => 146 | 266 => 153 | n => n, fun | 9 => 9 | 3 => 3 | 4 => 4 | 5 => 5 | 21 => 21 | 117 => 196 | 116 => 195 | 0 => 0 | 46 => 77 | 124 => 199 | n => n, fun | n => n⟩
theorem Tryz.lays153 : Go.Proofs.Lays.n153 Tryz.prog Tryz.lays153_ren := {
 mixed := by kernel_rfl
 f119 := Tryz.func161.trans (congrArg some (by kernel_rfl))
 f137 := Tryz.func130.trans (congrArg some (by kernel_rfl))
 f152 := Tryz.func154.trans (congrArg some (by kernel_rfl))
 f153 := Tryz.func147.trans (congrArg some (by kernel_rfl))
 f217 := Tryz.func146.trans (congrArg some (by kernel_rfl))
 f224 := Tryz.func159.trans (congrArg some (by kernel_rfl))
 f225 := Tryz.func158.trans (congrArg some (by kernel_rfl))
 f226 := Tryz.func155.trans (congrArg some (by kernel_rfl))
 f227 := Tryz.func138.trans (congrArg some (by kernel_rfl))
 f228 := Tryz.func148.trans (congrArg some (by kernel_rfl))
 f266 := Tryz.func153.trans (congrArg some (by kernel_rfl))
 t0 := Tryz.underlying0
 a0 := Tryz.isAgg0
 z0 := Tryz.sizeOf0
 v0 := Tryz.zeroValue0
 t3 := Tryz.underlying3
 a3 := Tryz.isAgg3
 z3 := Tryz.sizeOf3
 v3 := Tryz.zeroValue3
 t4 := Tryz.underlying4
 a4 := Tryz.isAgg4
 z4 := Tryz.sizeOf4
 v4 := Tryz.zeroValue4
 t5 := Tryz.underlying5
 a5 := Tryz.isAgg5
 z5 := Tryz.sizeOf5
 v5 := Tryz.zeroValue5
 t9 := Tryz.underlying9
 a9 := Tryz.isAgg9
 z9 := Tryz.sizeOf9
 v9 := Tryz.zeroValue9
 t21 := Tryz.underlying21
 a21 := Tryz.isAgg21
 z21 := Tryz.sizeOf21
 v21 := Tryz.zeroValue21
 t46 := Tryz.underlying77
 a46 := Tryz.isAgg77
 z46 := Tryz.sizeOf77
 v46 := Tryz.zeroValue77
 t116 := Tryz.underlying195
 a116 := Tryz.isAgg195
 z116 := Tryz.sizeOf195
 t117 := Tryz.underlying196
 a117 := Tryz.isAgg196
 z117 := Tryz.sizeOf196
 v117 := Tryz.zeroValue196
 t124 := Tryz.underlying199
 a124 := Tryz.isAgg199
 z124 := Tryz.sizeOf199
 v124 := Tryz.zeroValue199 }
open Go.RowKit Go.Lib in
/-- chars is one ASCII byte. (LAID: no walk: one application.) -/
theorem Tryz.strings_IndexAny_one (s chars : ByteArray) (w : World) (h1 : chars.size = 1) (hascii : ∀ (j : Nat) b, chars.data.toList[j]? = some b → b.toNat < 128) :
 Calls Tryz.prog 147 #[.string s, .string chars] w fun e w' => e = .returned (.int .i64 (Lib.indexAny s.data.toList chars.data.toList)) ∧ w' = w := Any.strings_IndexAny_one Tryz.lays153 s chars w h1 hascii
def Tryz.lays227_ren : Go.Shelf.Ren := ⟨fun | 227 => 138 | n => n, fun | 9 => 9 | 116 => 195 | 4 => 4 | 0 => 0 | 3 => 3 | 5 => 5 | n => n, fun | n => n⟩
theorem Tryz.lays227 : Go.Proofs.Lays.n227 Tryz.prog Tryz.lays227_ren := {
 mixed := by kernel_rfl
 f227 := Tryz.func138.trans (congrArg some (by kernel_rfl))
 t0 := Tryz.underlying0
 a0 := Tryz.isAgg0
 z0 := Tryz.sizeOf0
 v0 := Tryz.zeroValue0
 t3 := Tryz.underlying3
 a3 := Tryz.isAgg3
 z3 := Tryz.sizeOf3
 v3 := Tryz.zeroValue3
 t4 := Tryz.underlying4
 a4 := Tryz.isAgg4
 z4 := Tryz.sizeOf4
 v4 := Tryz.zeroValue4
 t5 := Tryz.underlying5
 a5 := Tryz.isAgg5
 z5 := Tryz.sizeOf5
 v5 := Tryz.zeroValue5
 t9 := Tryz.underlying9
 a9 := Tryz.isAgg9
 z9 := Tryz.sizeOf9
 v9 := Tryz.zeroValue9
 t116 := Tryz.underlying195
 a116 := Tryz.isAgg195
 z116 := Tryz.sizeOf195 }
open Go.RowKit Go.Lib in
theorem Tryz.strings_makeASCIISet (hv116 : ∀ w, (zeroValue 195).run Tryz.prog w = .ok (.agg (Array.replicate 256 (.bool false))) w) (chars : ByteArray) (w : World) (hs : chars.size < 4294967281) (hascii : ∀ (j : Nat) b, chars.data.toList[j]? = some b → b.toNat < 128) :
 Calls Tryz.prog 138 #[.string chars] w fun e w' => e = .returned (.tuple #[.agg (Lib.setCells chars.data.toList), .bool true]) ∧ w' = w.alloc (.cells (Lib.setCells chars.data.toList) 195) := Any.strings_makeASCIISet Tryz.lays227 hv116 (by kernel_rfl) chars w hs hascii
def Tryz.lays228_ren : Go.Shelf.Ren := ⟨fun | 228 => 148 | n => n, fun | 124 => 199 | 5 => 5 | 4 => 4 | 0 => 0 | 116 => 195 | n => n, fun | n => n⟩
theorem Tryz.lays228 : Go.Proofs.Lays.n228 Tryz.prog Tryz.lays228_ren := {
 mixed := by kernel_rfl
 f228 := Tryz.func148.trans (congrArg some (by kernel_rfl))
 t0 := Tryz.underlying0
 a0 := Tryz.isAgg0
 z0 := Tryz.sizeOf0
 v0 := Tryz.zeroValue0
 t4 := Tryz.underlying4
 a4 := Tryz.isAgg4
 z4 := Tryz.sizeOf4
 v4 := Tryz.zeroValue4
 t5 := Tryz.underlying5
 a5 := Tryz.isAgg5
 z5 := Tryz.sizeOf5
 v5 := Tryz.zeroValue5
 t116 := Tryz.underlying195
 a116 := Tryz.isAgg195
 z116 := Tryz.sizeOf195
 t124 := Tryz.underlying199
 a124 := Tryz.isAgg199
 z124 := Tryz.sizeOf199
 v124 := Tryz.zeroValue199 }
open Go.RowKit Go.Lib in
/-- '(as *asciiSet) contains(c)': 'as[c]': the set lies at block b, whole. (LAID: no walk: one application.) -/
theorem Tryz.asciiSet_contains (b : Nat) (x : UInt8) (v : Bool) (w : World) (hc : w.cell? ⟨b, x.toNat, none⟩ = some (.bool v)) :
 Calls Tryz.prog 148 #[.pointer (some ⟨b, 0, none⟩), .int .u8 x.toNat] w fun e w' => e = .returned (.bool v) ∧ w' = w := Any.asciiSet_contains Tryz.lays228 b x v w hc
def Tryz.lays110_ren : Go.Shelf.Ren := ⟨fun | 110 => 111 | 109 => 128 | n => n, fun | 31 => 32 | 9 => 9 | 4 => 4 | 3 => 3 | 0 => 0 | n => n, fun | n => n⟩
theorem Tryz.lays110 : Go.Proofs.Lays.n110 Tryz.prog Tryz.lays110_ren := {
 mixed := by kernel_rfl
 f109 := Tryz.func128.trans (congrArg some (by kernel_rfl))
 f110 := Tryz.func111.trans (congrArg some (by kernel_rfl))
 t0 := Tryz.underlying0
 a0 := Tryz.isAgg0
 z0 := Tryz.sizeOf0
 v0 := Tryz.zeroValue0
 t3 := Tryz.underlying3
 a3 := Tryz.isAgg3
 z3 := Tryz.sizeOf3
 v3 := Tryz.zeroValue3
 t4 := Tryz.underlying4
 a4 := Tryz.isAgg4
 z4 := Tryz.sizeOf4
 v4 := Tryz.zeroValue4
 t9 := Tryz.underlying9
 a9 := Tryz.isAgg9
 z9 := Tryz.sizeOf9
 v9 := Tryz.zeroValue9
 t31 := Tryz.underlying32
 a31 := Tryz.isAgg32
 z31 := Tryz.sizeOf32
 v31 := Tryz.zeroValue32 }
open Go.Lib in
/-- slices.Contains at []string: "Contains reports whether v is present in s.": IT RETURNS 'Lib.containsS (the elements) v', which is true just where v is among them ('Lib.containsS_iff'); the world is as it was. ITS CALLEE slices.Index IS MET BY ITS OWN CONTRACT OFF THE SHELF (lay that first): no loop is walked here. (LAID: no walk: one application.) -/
theorem Tryz.slices_Contains_string (b off n c : Nat) (zs : List ByteArray) (x : ByteArray) (w : World) (hz : n ≤ zs.length) (hbig : n ≤ 9223372036854775807) (hc : ∀ j, j < zs.length → w.cell? ⟨b, off + j, none⟩ = some (.string (zs.getD j ByteArray.empty))) :
 Calls Tryz.prog 111 #[.slice (some ⟨b, off, none⟩) n c, .string x] w fun e w' => e = .returned (.bool (Lib.containsS (zs.take n) x)) ∧ w' = w := Any.slices_Contains_string Tryz.lays110 b off n c zs x w hz hbig hc
open Go.Lib in
/-- The same at a slice of length 0, a nil one too. (LAID: no walk: one application.) -/
theorem Tryz.slices_Contains_string_empty (a : Option Addr) (c : Nat) (x : ByteArray) (w : World) :
 Calls Tryz.prog 111 #[.slice a 0 c, .string x] w fun e w' => e = .returned (.bool false) ∧ w' = w := Any.slices_Contains_string_empty Tryz.lays110 a c x w
end Go.Proofs
namespace Go.Proofs.YtihanglnjghcfaaGreatDoor
open Go.RowKit
set_option linter.unusedVariables false
set_option linter.unusedSimpArgs false

def isName (s : ByteArray) (k : Nat) : Bool := (strOfNums (nameL (k : Int))).toList == s.toList
/-- The kind that a name is. -/
def kindN (s : ByteArray) : Nat := if isName s 1 then 1 else if isName s 2 then 2 else if isName s 3 then 3 else if isName s 4 then 4 else 0
theorem kindN_at (s : ByteArray) (k : Nat) (h1 : 1 ≤ k) (h4 : k ≤ 4) (hb : ∀ j, 1 ≤ j → j < k → isName s j = false) (h : isName s k = true) : kindN s = k := by
 unfold kindN
 have : k = 1 ∨ k = 2 ∨ k = 3 ∨ k = 4 := by omega
 rcases this with rfl | rfl | rfl | rfl
 · rw [if_pos h]
 · rw [if_neg (by rw [hb 1 (by omega) (by omega)]; decide), if_pos h]
 · rw [if_neg (by rw [hb 1 (by omega) (by omega)]; decide), if_neg (by rw [hb 2 (by omega) (by omega)]; decide), if_pos h]
 · rw [if_neg (by rw [hb 1 (by omega) (by omega)]; decide), if_neg (by rw [hb 2 (by omega) (by omega)]; decide), if_neg (by rw [hb 3 (by omega) (by omega)]; decide), if_pos h]
theorem kindN_no (s : ByteArray) (hb : ∀ j, 1 ≤ j → j < 5 → isName s j = false) : kindN s = 0 := by
 unfold kindN
 rw [if_neg (by rw [hb 1 (by omega) (by omega)]; decide), if_neg (by rw [hb 2 (by omega) (by omega)]; decide), if_neg (by rw [hb 3 (by omega) (by omega)]; decide), if_neg (by rw [hb 4 (by omega) (by omega)]; decide)]
def KindPost (s : ByteArray) (w : World) (e : Ending) (w' : World) : Prop := e = .returned (.tuple #[.int .i64 ((kindN s : Nat) : Int), .bool (decide (0 < kindN s))]) ∧ Below w.heap.size w w'
set_option maxRecDepth 100000 in
theorem kind_any (s : ByteArray) (w : World) : Calls Tryz.prog 115 #[.string s] w (KindPost s w) := by
 have hnm := names_any w
 have hx := fun (k : Nat) (hk : k < 5) w' => name_ix k hk w'
 generalize namesV = V at *
 have HX := Lib.hid hx
 clear hx
 go_enter Tryz.func115, Tryz.ntmps115
 go_wp2_with (refine hnm.mono ?_; rintro e w1 ⟨rfl, hb1⟩)
 have HB := Lib.hid hb1
 clear hb1 hnm
 go_loopw [4, 5, 7] (fun _ _ v wr => ∃ k : Nat, v = .int .i64 (k : Int) ∧ k ≤ 5 ∧ wr = w1 ∧ ∀ j, 1 ≤ j → j < k → isName s j = false) (fun _ _ v _ => 5 - (intOf v).toNat)
 case atStart => exact ⟨0, rfl, by omega, rfl, fun j h1 h2 => by omega⟩
 case round =>
  obtain ⟨k, rfl, hk, rfl, hno⟩ := hrel
  have HN := Lib.hid hno
  clear hno
  by_cases hk5 : k < 5
  · have d0 : decide ((k : Int) < 5) = true := decide_eq_true (by omega)
    have hix := fun w' => HX.out k hk5 w'
    by_cases h0 : 0 < k
    · have d1 : decide ((0 : Int) < (k : Int)) = true := decide_eq_true (by omega)
      cases hn : isName s k
      · have hn' : ((strOfNums (nameL (k : Int))).toList == s.toList) = false := hn
        have HS : Hid (∀ j, 1 ≤ j → j < k + 1 → isName s j = false) := Lib.hid (fun j h1 h2 => by
         by_cases hj : j = k
         · rw [hj]; exact hn
         · exact HN.out j h1 (by omega))
        clear hn
        go_wp2
        go_roundw
        case rel => exact ⟨k + 1, by go_num, by omega, by first | rfl | trivial, HS.out⟩
        case measure => simp [intOf]; omega
      · have hn' : ((strOfNums (nameL (k : Int))).toList == s.toList) = true := hn
        have HS := Lib.hid (kindN_at s k h0 (by omega) HN.out hn)
        clear hn
        go_wp2
        go_ret2
        unfold KindPost
        rw [HS.out]
        exact ⟨by rw [decide_eq_true h0]; rfl, HB.out⟩
    · obtain rfl : k = 0 := by omega
      have HS : Hid (∀ j, 1 ≤ j → j < 0 + 1 → isName s j = false) := Lib.hid (fun j h1 h2 => by omega)
      have d1 : decide ((0 : Int) < ((0 : Nat) : Int)) = false := by decide
      clear hix
      have hix : ∀ w', (Instr.index 182 V (.int .i64 0)).run Tryz.prog w' = .ok (.string (strOfNums (nameL 0))) w' := fun w' => HX.out 0 (by omega) w'
      go_wp2
      go_roundw
      case rel => exact ⟨1, by go_num, by omega, by first | rfl | trivial, HS.out⟩
      case measure => simp [intOf]
  · obtain rfl : k = 5 := by omega
    have d0 : decide (((5 : Nat) : Int) < 5) = false := by decide
    have HS := Lib.hid (kindN_no s HN.out)
    go_wp2
    go_ret2
    unfold KindPost
    rw [HS.out]
    exact ⟨rfl, HB.out⟩
end Go.Proofs.YtihanglnjghcfaaGreatDoor
namespace Go.Proofs.YtihanglnjghcfaaGreatDoor
open Go.RowKit
set_option linter.unusedVariables false
set_option linter.unusedSimpArgs false

/-- What the walks ask of the library's own variables. -/
structure EnvO (w : World) : Prop where
 tabs : Lib.Utf8Tabs 1 2 w
theorem EnvO.below {w w' : World} (h : EnvO w) (hb : Below w.heap.size w w') : EnvO w' := ⟨Utf8Tabs_below h.tabs hb⟩
end Go.Proofs.YtihanglnjghcfaaGreatDoor
namespace Go.Proofs.YtihanglnjghcfaaGreatDoor
open Go.ChangeShapes Go.WideShapes Go.ChangeAt Go.RowKit
open Go.ChangeMaps (open_string shut_string)

theorem own : ownKnob Tryz.prog.godebug = none := by kernel_rfl
end Go.Proofs.YtihanglnjghcfaaGreatDoor
namespace Go.Proofs.YtihanglnjghcfaaGreatDoor
open Go.ChangeShapes Go.WideShapes Go.ChangeAt Go.RowKit

def setTab (cs : Array Value) : Obj → Obj
 | .cells _ t frozen => .cells cs t frozen
 | o => o
def firstCells : Array Value := (Go.Pinned.utf8FirstZ.map fun n : Nat => Value.int .u8 (n : Int)).toArray
def acceptCells : Array Value := ((List.range 16).flatMap fun i => [Value.int .u8 (Lib.accLo i), Value.int .u8 (Lib.accHi i)]).toArray
/-- The settled world, the listed tables holding what their initialisers lay. -/
noncomputable def laidWorld (os : Os) : World :=
 { World.holding Tryz.prog os ⟨#[], #[], []⟩ with heap := ((World.holding Tryz.prog os ⟨#[], #[], []⟩).heap.modify 1 (setTab firstCells)).modify 2 (setTab acceptCells) }
theorem u8x : Go.Proofs.U8Extra Tryz.prog Tryz.lays196_ren := ⟨by kernel_rfl, by kernel_rfl, by kernel_rfl, by kernel_rfl, by kernel_rfl, by kernel_rfl, by kernel_rfl⟩
theorem first_eq : Go.Pinned.utf8First = Lib.firstData := by kernel_rfl
theorem env_of {laid : List (String × DataW Unit)} {W : World} (hlaid : laid = [("unicode/utf8.acceptRanges", Rows.laid_unicode_utf8_acceptRanges), ("unicode/utf8.first", Rows.laid_unicode_utf8_first)]) (h : laidMetH Tryz.prog laid W) : EnvO W := by
 subst hlaid
 have hl : laidMet Tryz.prog [("unicode/utf8.acceptRanges", Rows.laid_unicode_utf8_acceptRanges), ("unicode/utf8.first", Rows.laid_unicode_utf8_first)] W := h
 have h3 : Lib.VarReads Tryz.prog W "unicode/utf8.first" Lib.firstData := by
  rw [← first_eq]
  exact Lib.laidMet.reads hl (by simp [Rows.laid_unicode_utf8_first])
 have h4 : Lib.VarReads Tryz.prog W "unicode/utf8.acceptRanges" Lib.acceptData := by
  have e : (Rows.laid_unicode_utf8_acceptRanges : DataW Unit) = Lib.acceptData := by kernel_rfl
  rw [← e]
  exact Lib.laidMet.reads hl (by simp)
 exact ⟨Go.Proofs.utf8Tabs_of_readsT (P := Tryz.prog) (ρ := Tryz.lays196_ren) { Tryz.lays196 with } u8x h3 h4⟩
theorem int_le {x : Int} (h : (Lit.int .i64 x).wf = true) : x ≤ 9223372036854775807 := by
 simp only [Lit.wf, IntKind.min, IntKind.max, IntKind.bits, IntKind.signed] at h
 simp at h
 omega
end Go.Proofs.YtihanglnjghcfaaGreatDoor
namespace Go.Proofs.YtihanglnjghcfaaGreatDoor
set_option linter.unusedVariables false
set_option linter.unusedSimpArgs false

abbrev Gid := List UInt8
/-- A link: an ID, and the kind that it must have. -/
structure Glk where
 id : Gid
 kd : Int
 deriving DecidableEq
/-- An object: its kind, its ID, and its links, if it is read at all; the parents, if it is a commit; what it is of, if it is a tag. -/
structure Gob where
 kd : Int
 id : Gid
 lk : Option (List Glk)
 pa : Option (List Gid)
 tg : Option Gid
/-- A walk's item: an ID and its kind (0: any). -/
structure Git where
 id : Gid
 kd : Int
/-- An ID's place in the list. -/
def atG (l : List Git) (id : Gid) : Option Nat := l.findIdx? fun x => x.id == id
theorem atG_none {l : List Git} {id : Gid} : atG l id = none ↔ ∀ x ∈ l, x.id ≠ id := by
 unfold atG
 rw [List.findIdx?_eq_none_iff]
 simp
/-- The walk's add: the list behind it, and whether the kinds agree. -/
def addG (l : List Git) (k : Glk) : List Git × Bool :=
 match atG l k.id with
 | none => (l ++ [⟨k.id, k.kd⟩], true)
 | some i =>
  let x := (l[i]?.map (·.kd)).getD 0
  if x = 0 then (l.modify i fun y => ⟨y.id, k.kd⟩, true) else (l, k.kd = 0 || x = k.kd)
/-- The links of one object laid into the list; none: the kinds do not agree. -/
def linksG (l : List Git) : List Glk → Option (List Git)
 | [] => some l
 | k :: ks => if (addG l k).2 then linksG (addG l k).1 ks else none
/-- One item looked at: the list behind it, or the error. -/
def lookG (G : Gid → Option Gob) (l : List Git) (i : Nat) : Except Int (List Git) :=
 match l[i]? with
 | none => .ok l
 | some x =>
  match G x.id with
  | none => .error 61
  | some o =>
   match o.lk with
   | none => .error 3
   | some ks =>
    if x.kd ≠ 0 ∧ x.kd ≠ o.kd then .error 3 else
    match linksG (l.modify i fun y => ⟨y.id, o.kd⟩) ks with
    | none => .error 3
    | some m => .ok m
/-- The walk from place i on, for so many rounds. -/
def goG (G : Gid → Option Gob) (most : Int) : Nat → Nat → List Git → Except Int (List Git)
 | 0, _, l => .ok l
 | n + 1, i, l =>
  if i < l.length then
   if (i : Int) ≥ max most 0 then .error 5 else
   match lookG G l i with
   | .error e => .error e
   | .ok m => goG G most n (i + 1) m
  else .ok l

/-! ### IDs in the list are unlike -/
def OneG (l : List Git) : Prop := (l.map (·.id)).Nodup
theorem modify_ids (l : List Git) (i : Nat) (d : Int) : (l.modify i fun y => ⟨y.id, d⟩).map (·.id) = l.map (·.id) := by
 apply List.ext_getElem?
 intro j
 rw [List.getElem?_map, List.getElem?_modify, List.getElem?_map]
 cases l[j]? with
 | none => simp
 | some y => simp only [Option.map_some]; split <;> rfl
theorem snoc_one {l : List Git} (h : OneG l) {id : Gid} (d : Int) (hn : atG l id = none) : OneG (l ++ [⟨id, d⟩]) := by
 unfold OneG at *
 rw [List.map_append, List.nodup_append]
 refine ⟨h, by simp, fun a ha b hb => ?_⟩
 obtain ⟨x, hx, rfl⟩ := List.mem_map.1 ha
 simp at hb
 subst hb
 exact atG_none.1 hn x hx
theorem addG_one {l : List Git} (h : OneG l) (k : Glk) : OneG (addG l k).1 := by
 unfold addG
 cases hat : atG l k.id with
 | none => exact snoc_one h _ hat
 | some i =>
  dsimp only
  split
  · unfold OneG at *
    rw [modify_ids]; exact h
  · exact h
theorem linksG_one : ∀ (ks : List Glk) (l m : List Git), OneG l → linksG l ks = some m → OneG m
 | [], l, m, h, hm => by simp [linksG] at hm; rw [← hm]; exact h
 | k :: ks, l, m, h, hm => by
  unfold linksG at hm
  split at hm
  · exact linksG_one ks _ m (addG_one h k) hm
  · cases hm
theorem lookG_one {G : Gid → Option Gob} {l m : List Git} {i : Nat} (h : OneG l) (hm : lookG G l i = .ok m) : OneG m := by
 unfold lookG at hm
 split at hm
 · injection hm with hm; rw [← hm]; exact h
 · split at hm
   · cases hm
   · split at hm
     · cases hm
     · split at hm
       · cases hm
       · split at hm
         · cases hm
         · rename_i hk
           injection hm with hm
           rw [← hm]
           refine linksG_one _ _ _ ?_ hk
           unfold OneG at *
           rw [modify_ids]; exact h
end Go.Proofs.YtihanglnjghcfaaGreatDoor
namespace Go.Proofs.YtihanglnjghcfaaGreatDoor
set_option linter.unusedVariables false
set_option linter.unusedSimpArgs false

/-! ### a walk ends -/
theorem nodup_sub_len : ∀ (a b : List Gid), a.Nodup → (∀ x ∈ a, x ∈ b) → a.length ≤ b.length
 | [], b, _, _ => Nat.zero_le _
 | x :: a, b, hn, hs => by
  obtain ⟨h1, h2⟩ := List.nodup_cons.1 hn
  have hx : x ∈ b := hs x (by simp)
  have := nodup_sub_len a (b.erase x) h2 fun y hy => (List.mem_erase_of_ne (fun e => h1 (by rw [← e]; exact hy))).2 (hs y (by simp [hy]))
  rw [List.length_erase_of_mem hx] at this
  have hb : 0 < b.length := List.length_pos_of_mem hx
  simp only [List.length_cons]
  omega
theorem addG_pre (l : List Git) (k : Glk) : ∃ t, (addG l k).1.map (·.id) = l.map (·.id) ++ t := by
 unfold addG
 cases atG l k.id with
 | none => exact ⟨[k.id], by simp⟩
 | some i =>
  dsimp only
  split
  · exact ⟨[], by rw [modify_ids]; simp⟩
  · exact ⟨[], by simp⟩
end Go.Proofs.YtihanglnjghcfaaGreatDoor
namespace Go.Proofs.YtihanglnjghcfaaGreatDoor
set_option linter.unusedVariables false
set_option linter.unusedSimpArgs false

def parG (l : List Gid) : List Gid → List Gid
 | [] => l
 | p :: ps => parG (if p ∈ l then l else l ++ [p]) ps
def ancP (G : Gid → Option Gob) (most : Int) (a : Gid) : Nat → Nat → List Gid → Except Int Bool
 | 0, _, _ => .ok false
 | n + 1, i, l =>
  match l[i]? with
  | none => .ok false
  | some d =>
   if a ∈ l then .ok true else
   if (i : Int) ≥ max most 0 then .error 5 else
   match G d with
   | none => .error 61
   | some o => match o.pa with | none => .error 3 | some ps => ancP G most a n (i + 1) (parG l ps)
theorem parG_pre : ∀ (ps l : List Gid), ∃ t, parG l ps = l ++ t
 | [], l => ⟨[], by simp [parG]⟩
 | p :: ps, l => by
  unfold parG
  split
  · exact parG_pre ps l
  · obtain ⟨t, ht⟩ := parG_pre ps (l ++ [p])
    exact ⟨[p] ++ t, by rw [ht, List.append_assoc]⟩
theorem parG_nodup : ∀ (ps l : List Gid), l.Nodup → (parG l ps).Nodup
 | [], l, h => h
 | p :: ps, l, h => by
  unfold parG
  refine parG_nodup ps _ ?_
  split
  · exact h
  · rename_i hp
    rw [List.nodup_append]
    exact ⟨h, by simp, fun a ha b hb => by simp at hb; subst hb; exact fun e => hp (e ▸ ha)⟩
end Go.Proofs.YtihanglnjghcfaaGreatDoor
namespace Go.Proofs.YtihanglnjghcfaaGreatDoor
set_option linter.unusedVariables false
set_option linter.unusedSimpArgs false

/-- The links' IDs of an object. -/
def idsG (o : Gob) : List Gid := match o.lk with | none => [] | some ks => ks.map (·.id)
/-- One round of the program's: what the item hangs on is laid behind. -/
def thStep (G : Gid → Option Gob) (l : List Gid) (d : Gid) : List Gid := match G d with | none => l | some o => parG l (idsG o)
/-- One round of the document's: only what is there is laid behind. -/
def thereB (G : Gid → Option Gob) (d : Gid) : Bool := (G d).isSome
def thStepD (G : Gid → Option Gob) (l : List Gid) (d : Gid) : List Gid := match G d with | none => l | some o => parG l ((idsG o).filter (thereB G))
theorem parG_filter (f : Gid → Bool) : ∀ (ps l : List Gid), (parG l ps).filter f = parG (l.filter f) (ps.filter f)
 | [], l => rfl
 | p :: ps, l => by
  have e : parG l (p :: ps) = parG (if p ∈ l then l else l ++ [p]) ps := rfl
  rw [e, parG_filter f ps]
  cases hp : f p with
  | true =>
   have e2 : (p :: ps).filter f = p :: ps.filter f := List.filter_cons_of_pos (by simp [hp])
   have e3 : parG (l.filter f) (p :: ps.filter f) = parG (if p ∈ l.filter f then l.filter f else l.filter f ++ [p]) (ps.filter f) := rfl
   have hm : p ∈ l.filter f ↔ p ∈ l := by rw [List.mem_filter]; simp [hp]
   rw [e2, e3]
   by_cases h : p ∈ l
   · rw [if_pos h, if_pos (hm.2 h)]
   · rw [if_neg h, if_neg (fun h2 => h (hm.1 h2)), List.filter_append]
     simp [hp]
  | false =>
   have e2 : (p :: ps).filter f = ps.filter f := List.filter_cons_of_neg (by simp [hp])
   rw [e2]
   by_cases h : p ∈ l
   · rw [if_pos h]
   · rw [if_neg h, List.filter_append]
     simp [hp]
/-- A round of an item that is there: alike, but for what is not there. -/
theorem thStep_filter (G : Gid → Option Gob) (l : List Gid) (d : Gid) : (thStep G l d).filter (thereB G) = thStepD G (l.filter (thereB G)) d := by
 unfold thStep thStepD
 cases G d with
 | none => rfl
 | some o => exact parG_filter _ _ _
/-- A round of an item that is not there changes nothing. -/
theorem thStep_not (G : Gid → Option Gob) (l : List Gid) (d : Gid) (h : thereB G d = false) : thStep G l d = l := by
 unfold thereB at h
 unfold thStep
 cases hg : G d with
 | none => rfl
 | some o => rw [hg] at h; cases h
end Go.Proofs.YtihanglnjghcfaaGreatDoor
namespace Go.Proofs.YtihanglnjghcfaaGreatDoor
open Go.RowKit Go.Maps Go.WideShapes
set_option linter.unusedVariables false
set_option linter.unusedSimpArgs false

/-- Block b is a map that tells each text's place, where it has one. -/
def MapI (w : World) (b n : Nat) (f : List UInt8 → Option Nat) : Prop :=
 ∃ D : DataW Unit, w.ownsMap Tryz.prog 9 (plainElem Tryz.prog 3) b n D ∧ Maps.IsMap D ∧ ∀ (s : List UInt8) (zd : DataW Unit), D.atKey (.string s) zd = match f s with | none => zd | some i => .lit (.int .i64 (i : Int))
theorem mapi_law : Maps.Keyed Tryz.prog 9 := Maps.string_keyed Tryz.underlying9
theorem mapi_zero (w : World) : (zeroValue 3).run Tryz.prog w = .ok (.int .i64 0) w := Tryz.zeroValue3 w
section
variable {w w' : World} {b n : Nat} {f : List UInt8 → Option Nat}
theorem MapI.lt (h : MapI w b n f) : b < w.heap.size := by
 obtain ⟨D, h, _⟩ := h; exact h.lt
theorem MapI.new (w : World) : MapI (w.alloc (.map #[] 0)) w.heap.size 0 (fun _ => none) :=
 ⟨.map [], World.ownsMap_made w _ _ _, Maps.isMap_empty, fun s _ => rfl⟩
theorem MapI.same (h : MapI w b n f) (hw : w'.heap[b]? = w.heap[b]?) : MapI w' b n f := by
 obtain ⟨D, ⟨es, clock, hb, F, hs, hD⟩, h2, h3⟩ := h
 exact ⟨D, ⟨es, clock, hw.trans hb, F, hs, hD⟩, h2, h3⟩
theorem MapI.below (h : MapI w b n f) (hb : Below w.heap.size w w') : MapI w' b n f := h.same (hb.block b h.lt)
theorem MapI.chg {S : Nat → Prop} (h : MapI w b n f) (hc : Chg S w w') (hn : ¬ S b) : MapI w' b n f := h.same (hc.block b h.lt hn)
theorem MapI.setCell (h : MapI w b n f) {a : Addr} (ha : b ≠ a.block) (u : Value) : MapI (w.setCell a u) b n f := h.same (Below.heap_setCell _ _ _ _ ha)
/-- What a look-up answers. -/
def optI : Option Nat → Value
 | none => .tuple #[.int .i64 0, .bool false]
 | some i => .tuple #[.int .i64 (i : Int), .bool true]
theorem MapI.look (h : MapI w b n f) (s : ByteArray) (hs : s.size ≤ 9223372036854775807) :
 (Instr.lookup 82 (.map (some b)) (.string s) true).run Tryz.prog w = .ok (optI (f s.data.toList)) w := by
 obtain ⟨D, ⟨es, clock, hb, F, _, hD⟩, _, hat⟩ := h
 have hk : keyOf Tryz.prog 9 (.string s) = some (.string s.data.toList) := WideMaps.keyOf_string_mk Tryz.underlying9 (s := s) (by unfold maxLen; omega)
 rcases Maps.fit_look (e := 3) true mapi_law Tryz.underlying82 (mapi_zero w) hb F hk with ⟨hrun, _, h2⟩ | ⟨e0, y, _, _, hrun, hRv, h2, _⟩
 · rw [hrun]
   have h1 := h2 .nil
   rw [← hD, hat] at h1
   cases hg : f s.data.toList with
   | none => rfl
   | some i => rw [hg] at h1; cases h1
 · rw [hrun]
   have h1 := h2 .nil
   rw [← hD, hat] at h1
   obtain ⟨yd, yp⟩ := y
   obtain ⟨c, hv, hy, _⟩ := plainElem_int_inv Tryz.underlying3 hRv
   simp only [Prod.mk.injEq] at hy
   cases hg : f s.data.toList with
   | none => rw [hg] at h1; rw [hy.1] at h1; cases h1
   | some i =>
    rw [hg] at h1
    dsimp only at h1
    rw [hy.1] at h1
    have h3 : ((i : Nat) : Int) = c := congrArg (fun d : DataW Unit => match d with | .lit (.int _ n) => n | _ => 0) h1
    show Result.ok (Value.tuple #[e0.val, .bool true]) w = _
    rw [hv, ← h3]
    rfl
theorem MapI.put (h : MapI w b n f) (hn : n < 9223372036854775807) (s : ByteArray) (hs : s.size ≤ 9223372036854775807) (i : Nat) (hi : i < 9223372036854775807) :
 ∃ w', (Instr.mapUpdate 82 (.map (some b)) (.string s) (.int .i64 (i : Int))).run Tryz.prog w = .ok () w' ∧ MapI w' b (n + 1) (fun t => if t = s.data.toList then some i else f t) ∧ w.grownBy w' (some b) := by
 obtain ⟨D, hown, hm, hat⟩ := h
 have hwf : (Lit.int .i64 (i : Int)).wf = true := by
  simp only [Lit.wf, IntKind.min, IntKind.max, IntKind.bits, IntKind.signed]
  simp
  omega
 obtain ⟨w', hrun, h1, h2⟩ := hown.update mapi_law Tryz.underlying82 (by unfold maxLen; omega) (WideMaps.keyOf_string_mk Tryz.underlying9 (s := s) (by unfold maxLen; omega)) (plainElem_int Tryz.underlying3 hwf)
 refine ⟨w', hrun, ⟨_, h1, hm.put _ _, fun t zd => ?_⟩, h2⟩
 by_cases e : t = s.data.toList
 · subst e
   rw [Maps.atKey_put_same hm (by trivial)]; simp only [if_pos]
 · rw [Maps.atKey_put_other (by intro h; injection h with h; exact e h), hat]; simp only [if_neg e]
end
end Go.Proofs.YtihanglnjghcfaaGreatDoor
namespace Go.Proofs.YtihanglnjghcfaaGreatDoor
open Go.RowKit Go.Maps
set_option linter.unusedVariables false
set_option linter.unusedSimpArgs false

/-! ### rows of structs -/
/-- Rows whose elements have z cells each. -/
theorem flat_len {α : Type} (z : Nat) (g : α → List Value) (hg : ∀ x, (g x).length = z) : ∀ L : List α, (L.flatMap g).length = L.length * z
 | [] => by simp
 | x :: L => by rw [List.flatMap_cons, List.length_append, hg, flat_len z g hg L, List.length_cons, Nat.succ_mul]; omega
theorem flat_at {α : Type} (z : Nat) (g : α → List Value) (hg : ∀ x, (g x).length = z) : ∀ (L : List α) (i j : Nat) (x : α), L[i]? = some x → j < z → (L.flatMap g)[i * z + j]? = (g x)[j]?
 | [], i, j, x, h, _ => by simp at h
 | y :: L, 0, j, x, h, hj => by
  simp at h; subst h
  rw [List.flatMap_cons, Nat.zero_mul, Nat.zero_add, List.getElem?_append_left (by rw [hg]; exact hj)]
 | y :: L, i + 1, j, x, h, hj => by
  rw [List.flatMap_cons, List.getElem?_append_right (by rw [hg, Nat.succ_mul]; omega), hg, show (i + 1) * z + j - z = i * z + j by rw [Nat.succ_mul]; omega]
  exact flat_at z g hg L i j x (by simpa using h) hj
/-- The cells of such a row's element. -/
theorem OwnS.flat {α : Type} {z : Nat} {g : α → List Value} (hg : ∀ x, (g x).length = z) {w : World} {B n c : Nat} {e : TypeId} {A : Option Addr} {L : List α} (hz : 0 < z) (h : OwnS w B e z (.slice A n c) n (L.flatMap g)) {i : Nat} {x : α} (hx : L[i]? = some x) :
 ∃ b o, A = some ⟨b, o, none⟩ ∧ B ≤ b ∧ b < w.heap.size ∧ ∀ j, j < z → w.cell? ⟨b, o + i * z + j, none⟩ = (g x)[j]? := by
 have hi := (List.getElem?_eq_some_iff.1 hx).1
 have hlen := flat_len z g hg L
 have hij : ∀ j, j < z → i * z + j < L.length * z := fun j hj => by
  have : (i + 1) * z ≤ L.length * z := Nat.mul_le_mul_right z hi
  rw [Nat.succ_mul] at this
  omega
 obtain ⟨b, o, c', hv, hb, hbl, hc⟩ := h.cells (by rw [hlen]; have := hij 0 hz; omega)
 injection hv with hA _ _
 refine ⟨b, o, hA, hb, hbl, fun j hj => ?_⟩
 rw [Nat.add_assoc, hc (i * z + j) (by rw [hlen]; exact hij j hj)]
 exact flat_at z g hg L i j x hx hj
end Go.Proofs.YtihanglnjghcfaaGreatDoor
