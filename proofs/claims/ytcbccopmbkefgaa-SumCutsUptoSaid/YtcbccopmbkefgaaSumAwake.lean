/- stemmalaw3.awake answers true. -/
import Derived.Test.YtcbccopmbkefgaaSumMathC
import Derived.Lib.SlBytesConst
namespace Go.Proofs.Ytcbccopmbkefgaa
open Go.RowKit
set_option linter.unusedVariables false

theorem em_str : strOfNums (hexL (shaAll [])) = (⟨#[100, 97, 51, 57, 97, 51, 101, 101, 53, 101, 54, 98, 52, 98, 48, 100, 51, 50, 53, 53, 98, 102, 101, 102, 57, 53, 54, 48, 49, 56, 57, 48, 97, 102, 100, 56, 48, 55, 48, 57]⟩ : ByteArray) := by
  rw [sha_empty, hex_empty]
  rfl
theorem crc_val : num4L (crcOut [49, 50, 51, 52, 53, 54, 55, 56, 57]) = 3421780262 := by
  rw [(crcOut_num _ (by intro x hx; revert x; decide)).2, crc_nine]; rfl
theorem ad_val : num4L (adOut [87, 105, 107, 105, 112, 101, 100, 105, 97]) = 300286872 := by
  rw [(adOut_num _).2, ad_nine]; rfl
theorem sha_bytes (k : H5) (hk : k.ok) (n : Nat) : Bytes (shaTo k n) := by
  induction n with
  | zero => intro x hx; cases hx
  | succ n ih =>
    intro x hx
    rcases List.mem_append.1 hx with hx | hx
    · exact ih x hx
    · exact be4_ok _ (H5.nth_ok k hk n).1 (H5.nth_ok k hk n).2 x hx
theorem shaAll_bytes (xs : List Int) : Bytes (shaAll xs) := by rw [shaAll_eq]; exact sha_bytes _ (fb_ok _ _ _ h0_ok) 5
theorem shaAll_len (xs : List Int) : (shaAll xs).length = 20 := by rw [shaAll_eq, shaTo_len]

set_option maxRecDepth 100000 in
set_option maxHeartbeats 2000000 in
theorem awake3_any (w : World) : Calls Try.prog 25 #[] w fun e w' => e = .returned (.bool true) ∧ Below w.heap.size w w' := by
  have hlen := shaAll_len []
  have kc := fun (w : World) (C : Array Value) (n c : Nat) => Lib.run_convert_bytes_const (P := Try.prog) w 35 5 C n c Try.underlying35 Try.underlying5
  go_enter Try.func25, Try.ntmps25
  go_wp2_with fail
  refine (sha1_any none 0 0 [] w Ints.nil rfl (fun x hx => by cases hx) (by decide)).mono ?_
  rintro e w1 ⟨A1, c1, rfl, ho1, hb1⟩
  have hI1 := ho1.ints
  go_wp2_with fail
  refine (hex_any A1 _ c1 (shaAll []) w1 hI1 rfl (shaAll_bytes []) (by rw [hlen]; decide)).mono ?_
  rintro e w2 ⟨rfl, hb2⟩
  rw [em_str]
  have hB2 := hb1.trans (hb2.mono hb1.size)
  clear hlen ho1 hI1 hb1 hb2
  go_wp2_with fail
  refine (crc_any (some ⟨w2.heap.size, 0, none⟩) 9 9 [49, 50, 51, 52, 53, 54, 55, 56, 57] _ (Ints.of_new (cs := #[.int .u8 49, .int .u8 50, .int .u8 51, .int .u8 52, .int .u8 53, .int .u8 54, .int .u8 55, .int .u8 56, .int .u8 57]) (heap_alloc_new w2 _) rfl) rfl (by intro x hx; revert x; decide) (by decide) (crcOut_num _ (by intro x hx; revert x; decide)).1).mono ?_
  rintro e w3 ⟨rfl, hb3⟩
  rw [crc_val]
  have hB3 := (hB2.alloc hB2.size (.cells #[.int .u8 49, .int .u8 50, .int .u8 51, .int .u8 52, .int .u8 53, .int .u8 54, .int .u8 55, .int .u8 56, .int .u8 57] 5 (9, 10))).trans (hb3.mono (by simp; have := hB2.size; omega))
  clear hb3 hB2
  go_wp2_with fail
  refine (adler_any (some ⟨w3.heap.size, 0, none⟩) 9 9 [87, 105, 107, 105, 112, 101, 100, 105, 97] _ (Ints.of_new (cs := #[.int .u8 87, .int .u8 105, .int .u8 107, .int .u8 105, .int .u8 112, .int .u8 101, .int .u8 100, .int .u8 105, .int .u8 97]) (heap_alloc_new w3 _) rfl) rfl (by intro x hx; revert x; decide) (by decide) (adOut_num _).1).mono ?_
  rintro e w4 ⟨rfl, hb4⟩
  rw [ad_val]
  have hB4 := (hB3.alloc hB3.size (.cells #[.int .u8 87, .int .u8 105, .int .u8 107, .int .u8 105, .int .u8 112, .int .u8 101, .int .u8 100, .int .u8 105, .int .u8 97] 5 (9, 10))).trans (hb4.mono (by simp; have := hB3.size; omega))
  clear hb4 hB3
  go_wp2_with fail
  go_ret
  exact ⟨rfl, hB4⟩
end Go.Proofs.Ytcbccopmbkefgaa
