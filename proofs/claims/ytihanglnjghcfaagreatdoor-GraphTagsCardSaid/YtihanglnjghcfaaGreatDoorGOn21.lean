/- The objects of GraphTags: their IDs (printed by gentags.py). -/
import Derived.Test.YtihanglnjghcfaaGreatDoorGOn16
import Derived.Test.YtihanglnjghcfaaGreatDoorGOn20
namespace Go.Proofs.YtihanglnjghcfaaGreatDoor
open Go.RowKit
set_option linter.unusedVariables false

def cm_b : List UInt8 := [116, 114, 101, 101, 32, 52, 98, 56, 50, 53, 100, 99, 54, 52, 50, 99, 98, 54, 101, 98, 57, 97, 48, 54, 48, 101, 53, 52, 98, 102, 56, 100, 54, 57, 50, 56, 56, 102, 98, 101, 101, 52, 57, 48, 52, 10, 97, 117, 116, 104, 111, 114, 32, 65, 32, 60, 97, 62, 32, 49, 32, 43, 48, 48, 48, 48, 10, 99, 111, 109, 109, 105, 116, 116, 101, 114, 32, 65, 32, 60, 97, 62, 32, 49, 32, 43, 48, 48, 48, 48, 10, 10, 109]
def cm_d : Gid := [48, 48, 101, 101, 56, 98, 102, 98, 57, 97, 99, 54, 101, 57, 100, 101, 97, 51, 55, 100, 55, 55, 52, 97, 56, 56, 100, 48, 52, 55, 99, 51, 56, 48, 56, 49, 101, 53, 101, 54]
def cm_M : List Int := [99, 111, 109, 109, 105, 116, 32, 57, 51, 0, 116, 114, 101, 101, 32, 52, 98, 56, 50, 53, 100, 99, 54, 52, 50, 99, 98, 54, 101, 98, 57, 97, 48, 54, 48, 101, 53, 52, 98, 102, 56, 100, 54, 57, 50, 56, 56, 102, 98, 101, 101, 52, 57, 48, 52, 10, 97, 117, 116, 104, 111, 114, 32, 65, 32, 60, 97, 62, 32, 49, 32, 43, 48, 48, 48, 48, 10, 99, 111, 109, 109, 105, 116, 116, 101, 114, 32, 65, 32, 60, 97, 62, 32, 49, 32, 43, 48, 48, 48, 48, 10, 10, 109, 128, 0, 0, 0, 0, 0, 0, 0, 0, 0, 0, 0, 0, 0, 0, 0, 0, 0, 0, 0, 0, 0, 0, 3, 56]
theorem cm_head : headL 1 93 = [99, 111, 109, 109, 105, 116, 32, 57, 51, 0] := by
  unfold headL
  rw [digL_2 _ (by decide) (by decide)]
  decide
theorem cm_sha : shaF 2 cm_M = [0, 238, 139, 251, 154, 198, 233, 222, 163, 125, 119, 74, 136, 208, 71, 195, 128, 129, 229, 230] := by decide +kernel
theorem cm_msg : shaMsg ([99, 111, 109, 109, 105, 116, 32, 57, 51, 0] ++ bytesOf (bk cm_b)) 103 = cm_M := by decide +kernel
theorem cm_id : idK 1 cm_b = cm_d := by
  unfold idK
  rw [show (bk cm_b).size = 93 by decide +kernel, cm_head, shaF_is (xs := [99, 111, 109, 109, 105, 116, 32, 57, 51, 0] ++ bytesOf (bk cm_b)) cm_msg (by decide +kernel) cm_sha]
  decide +kernel
def tg0_b : List UInt8 := [111, 98, 106, 101, 99, 116, 32, 48, 48, 101, 101, 56, 98, 102, 98, 57, 97, 99, 54, 101, 57, 100, 101, 97, 51, 55, 100, 55, 55, 52, 97, 56, 56, 100, 48, 52, 55, 99, 51, 56, 48, 56, 49, 101, 53, 101, 54, 10, 116, 121, 112, 101, 32, 99, 111, 109, 109, 105, 116, 10, 116, 97, 103, 32, 118, 97, 10, 116, 97, 103, 103, 101, 114, 32, 65, 32, 60, 97, 62, 32, 49, 32, 43, 48, 48, 48, 48, 10, 10]
def tg0_d : Gid := [52, 55, 50, 57, 98, 102, 52, 101, 52, 53, 101, 98, 54, 102, 98, 48, 56, 55, 51, 100, 102, 48, 50, 97, 97, 54, 99, 98, 57, 100, 52, 97, 55, 51, 100, 50, 98, 54, 48, 97]
def tg0_M : List Int := [116, 97, 103, 32, 56, 57, 0, 111, 98, 106, 101, 99, 116, 32, 48, 48, 101, 101, 56, 98, 102, 98, 57, 97, 99, 54, 101, 57, 100, 101, 97, 51, 55, 100, 55, 55, 52, 97, 56, 56, 100, 48, 52, 55, 99, 51, 56, 48, 56, 49, 101, 53, 101, 54, 10, 116, 121, 112, 101, 32, 99, 111, 109, 109, 105, 116, 10, 116, 97, 103, 32, 118, 97, 10, 116, 97, 103, 103, 101, 114, 32, 65, 32, 60, 97, 62, 32, 49, 32, 43, 48, 48, 48, 48, 10, 10, 128, 0, 0, 0, 0, 0, 0, 0, 0, 0, 0, 0, 0, 0, 0, 0, 0, 0, 0, 0, 0, 0, 0, 0, 0, 0, 0, 0, 0, 0, 3, 0]
theorem tg0_head : headL 4 89 = [116, 97, 103, 32, 56, 57, 0] := by
  unfold headL
  rw [digL_2 _ (by decide) (by decide)]
  decide
theorem tg0_sha : shaF 2 tg0_M = [71, 41, 191, 78, 69, 235, 111, 176, 135, 61, 240, 42, 166, 203, 157, 74, 115, 210, 182, 10] := by decide +kernel
theorem tg0_msg : shaMsg ([116, 97, 103, 32, 56, 57, 0] ++ bytesOf (bk tg0_b)) 96 = tg0_M := by decide +kernel
theorem tg0_id : idK 4 tg0_b = tg0_d := by
  unfold idK
  rw [show (bk tg0_b).size = 89 by decide +kernel, tg0_head, shaF_is (xs := [116, 97, 103, 32, 56, 57, 0] ++ bytesOf (bk tg0_b)) tg0_msg (by decide +kernel) tg0_sha]
  decide +kernel
def tg1_b : List UInt8 := [111, 98, 106, 101, 99, 116, 32, 52, 55, 50, 57, 98, 102, 52, 101, 52, 53, 101, 98, 54, 102, 98, 48, 56, 55, 51, 100, 102, 48, 50, 97, 97, 54, 99, 98, 57, 100, 52, 97, 55, 51, 100, 50, 98, 54, 48, 97, 10, 116, 121, 112, 101, 32, 116, 97, 103, 10, 116, 97, 103, 32, 118, 98, 10, 116, 97, 103, 103, 101, 114, 32, 65, 32, 60, 97, 62, 32, 49, 32, 43, 48, 48, 48, 48, 10, 10]
def tg1_d : Gid := [101, 99, 51, 102, 54, 102, 97, 98, 48, 98, 54, 50, 99, 48, 101, 100, 52, 54, 56, 49, 55, 100, 57, 51, 55, 54, 51, 102, 56, 101, 55, 50, 57, 52, 49, 56, 101, 57, 52, 55]
def tg1_M : List Int := [116, 97, 103, 32, 56, 54, 0, 111, 98, 106, 101, 99, 116, 32, 52, 55, 50, 57, 98, 102, 52, 101, 52, 53, 101, 98, 54, 102, 98, 48, 56, 55, 51, 100, 102, 48, 50, 97, 97, 54, 99, 98, 57, 100, 52, 97, 55, 51, 100, 50, 98, 54, 48, 97, 10, 116, 121, 112, 101, 32, 116, 97, 103, 10, 116, 97, 103, 32, 118, 98, 10, 116, 97, 103, 103, 101, 114, 32, 65, 32, 60, 97, 62, 32, 49, 32, 43, 48, 48, 48, 48, 10, 10, 128, 0, 0, 0, 0, 0, 0, 0, 0, 0, 0, 0, 0, 0, 0, 0, 0, 0, 0, 0, 0, 0, 0, 0, 0, 0, 0, 0, 0, 0, 0, 0, 0, 2, 232]
theorem tg1_head : headL 4 86 = [116, 97, 103, 32, 56, 54, 0] := by
  unfold headL
  rw [digL_2 _ (by decide) (by decide)]
  decide
theorem tg1_sha : shaF 2 tg1_M = [236, 63, 111, 171, 11, 98, 192, 237, 70, 129, 125, 147, 118, 63, 142, 114, 148, 24, 233, 71] := by decide +kernel
theorem tg1_msg : shaMsg ([116, 97, 103, 32, 56, 54, 0] ++ bytesOf (bk tg1_b)) 93 = tg1_M := by decide +kernel
theorem tg1_id : idK 4 tg1_b = tg1_d := by
  unfold idK
  rw [show (bk tg1_b).size = 86 by decide +kernel, tg1_head, shaF_is (xs := [116, 97, 103, 32, 56, 54, 0] ++ bytesOf (bk tg1_b)) tg1_msg (by decide +kernel) tg1_sha]
  decide +kernel
def tg2_b : List UInt8 := [111, 98, 106, 101, 99, 116, 32, 101, 99, 51, 102, 54, 102, 97, 98, 48, 98, 54, 50, 99, 48, 101, 100, 52, 54, 56, 49, 55, 100, 57, 51, 55, 54, 51, 102, 56, 101, 55, 50, 57, 52, 49, 56, 101, 57, 52, 55, 10, 116, 121, 112, 101, 32, 116, 97, 103, 10, 116, 97, 103, 32, 118, 99, 10, 116, 97, 103, 103, 101, 114, 32, 65, 32, 60, 97, 62, 32, 49, 32, 43, 48, 48, 48, 48, 10, 10]
def tg2_d : Gid := [102, 98, 57, 51, 52, 53, 100, 100, 55, 52, 48, 51, 102, 101, 53, 100, 100, 97, 49, 100, 49, 54, 50, 52, 53, 50, 49, 48, 101, 97, 51, 50, 99, 101, 54, 50, 100, 101, 51, 57]
def tg2_M : List Int := [116, 97, 103, 32, 56, 54, 0, 111, 98, 106, 101, 99, 116, 32, 101, 99, 51, 102, 54, 102, 97, 98, 48, 98, 54, 50, 99, 48, 101, 100, 52, 54, 56, 49, 55, 100, 57, 51, 55, 54, 51, 102, 56, 101, 55, 50, 57, 52, 49, 56, 101, 57, 52, 55, 10, 116, 121, 112, 101, 32, 116, 97, 103, 10, 116, 97, 103, 32, 118, 99, 10, 116, 97, 103, 103, 101, 114, 32, 65, 32, 60, 97, 62, 32, 49, 32, 43, 48, 48, 48, 48, 10, 10, 128, 0, 0, 0, 0, 0, 0, 0, 0, 0, 0, 0, 0, 0, 0, 0, 0, 0, 0, 0, 0, 0, 0, 0, 0, 0, 0, 0, 0, 0, 0, 0, 0, 2, 232]
theorem tg2_head : headL 4 86 = [116, 97, 103, 32, 56, 54, 0] := by
  unfold headL
  rw [digL_2 _ (by decide) (by decide)]
  decide
theorem tg2_sha : shaF 2 tg2_M = [251, 147, 69, 221, 116, 3, 254, 93, 218, 29, 22, 36, 82, 16, 234, 50, 206, 98, 222, 57] := by decide +kernel
theorem tg2_msg : shaMsg ([116, 97, 103, 32, 56, 54, 0] ++ bytesOf (bk tg2_b)) 93 = tg2_M := by decide +kernel
theorem tg2_id : idK 4 tg2_b = tg2_d := by
  unfold idK
  rw [show (bk tg2_b).size = 86 by decide +kernel, tg2_head, shaF_is (xs := [116, 97, 103, 32, 56, 54, 0] ++ bytesOf (bk tg2_b)) tg2_msg (by decide +kernel) tg2_sha]
  decide +kernel
def tg3_b : List UInt8 := [111, 98, 106, 101, 99, 116, 32, 102, 98, 57, 51, 52, 53, 100, 100, 55, 52, 48, 51, 102, 101, 53, 100, 100, 97, 49, 100, 49, 54, 50, 52, 53, 50, 49, 48, 101, 97, 51, 50, 99, 101, 54, 50, 100, 101, 51, 57, 10, 116, 121, 112, 101, 32, 116, 97, 103, 10, 116, 97, 103, 32, 118, 100, 10, 116, 97, 103, 103, 101, 114, 32, 65, 32, 60, 97, 62, 32, 49, 32, 43, 48, 48, 48, 48, 10, 10]
def tg3_d : Gid := [98, 54, 100, 102, 50, 100, 100, 98, 48, 101, 50, 49, 98, 55, 56, 98, 54, 50, 52, 57, 57, 97, 55, 57, 48, 57, 56, 97, 102, 53, 98, 54, 54, 101, 99, 56, 99, 101, 51, 101]
def tg3_M : List Int := [116, 97, 103, 32, 56, 54, 0, 111, 98, 106, 101, 99, 116, 32, 102, 98, 57, 51, 52, 53, 100, 100, 55, 52, 48, 51, 102, 101, 53, 100, 100, 97, 49, 100, 49, 54, 50, 52, 53, 50, 49, 48, 101, 97, 51, 50, 99, 101, 54, 50, 100, 101, 51, 57, 10, 116, 121, 112, 101, 32, 116, 97, 103, 10, 116, 97, 103, 32, 118, 100, 10, 116, 97, 103, 103, 101, 114, 32, 65, 32, 60, 97, 62, 32, 49, 32, 43, 48, 48, 48, 48, 10, 10, 128, 0, 0, 0, 0, 0, 0, 0, 0, 0, 0, 0, 0, 0, 0, 0, 0, 0, 0, 0, 0, 0, 0, 0, 0, 0, 0, 0, 0, 0, 0, 0, 0, 2, 232]
theorem tg3_head : headL 4 86 = [116, 97, 103, 32, 56, 54, 0] := by
  unfold headL
  rw [digL_2 _ (by decide) (by decide)]
  decide
theorem tg3_sha : shaF 2 tg3_M = [182, 223, 45, 219, 14, 33, 183, 139, 98, 73, 154, 121, 9, 138, 245, 182, 110, 200, 206, 62] := by decide +kernel
theorem tg3_msg : shaMsg ([116, 97, 103, 32, 56, 54, 0] ++ bytesOf (bk tg3_b)) 93 = tg3_M := by decide +kernel
theorem tg3_id : idK 4 tg3_b = tg3_d := by
  unfold idK
  rw [show (bk tg3_b).size = 86 by decide +kernel, tg3_head, shaF_is (xs := [116, 97, 103, 32, 56, 54, 0] ++ bytesOf (bk tg3_b)) tg3_msg (by decide +kernel) tg3_sha]
  decide +kernel
def tg4_b : List UInt8 := [111, 98, 106, 101, 99, 116, 32, 98, 54, 100, 102, 50, 100, 100, 98, 48, 101, 50, 49, 98, 55, 56, 98, 54, 50, 52, 57, 57, 97, 55, 57, 48, 57, 56, 97, 102, 53, 98, 54, 54, 101, 99, 56, 99, 101, 51, 101, 10, 116, 121, 112, 101, 32, 116, 97, 103, 10, 116, 97, 103, 32, 118, 101, 10, 116, 97, 103, 103, 101, 114, 32, 65, 32, 60, 97, 62, 32, 49, 32, 43, 48, 48, 48, 48, 10, 10]
def tg4_d : Gid := [55, 99, 101, 54, 100, 99, 102, 51, 101, 53, 100, 102, 49, 100, 97, 55, 53, 52, 102, 97, 98, 57, 99, 57, 97, 56, 50, 53, 53, 55, 54, 49, 54, 51, 55, 51, 53, 99, 57, 97]
def tg4_M : List Int := [116, 97, 103, 32, 56, 54, 0, 111, 98, 106, 101, 99, 116, 32, 98, 54, 100, 102, 50, 100, 100, 98, 48, 101, 50, 49, 98, 55, 56, 98, 54, 50, 52, 57, 57, 97, 55, 57, 48, 57, 56, 97, 102, 53, 98, 54, 54, 101, 99, 56, 99, 101, 51, 101, 10, 116, 121, 112, 101, 32, 116, 97, 103, 10, 116, 97, 103, 32, 118, 101, 10, 116, 97, 103, 103, 101, 114, 32, 65, 32, 60, 97, 62, 32, 49, 32, 43, 48, 48, 48, 48, 10, 10, 128, 0, 0, 0, 0, 0, 0, 0, 0, 0, 0, 0, 0, 0, 0, 0, 0, 0, 0, 0, 0, 0, 0, 0, 0, 0, 0, 0, 0, 0, 0, 0, 0, 2, 232]
theorem tg4_head : headL 4 86 = [116, 97, 103, 32, 56, 54, 0] := by
  unfold headL
  rw [digL_2 _ (by decide) (by decide)]
  decide
theorem tg4_sha : shaF 2 tg4_M = [124, 230, 220, 243, 229, 223, 29, 167, 84, 250, 185, 201, 168, 37, 87, 97, 99, 115, 92, 154] := by decide +kernel
theorem tg4_msg : shaMsg ([116, 97, 103, 32, 56, 54, 0] ++ bytesOf (bk tg4_b)) 93 = tg4_M := by decide +kernel
theorem tg4_id : idK 4 tg4_b = tg4_d := by
  unfold idK
  rw [show (bk tg4_b).size = 86 by decide +kernel, tg4_head, shaF_is (xs := [116, 97, 103, 32, 56, 54, 0] ++ bytesOf (bk tg4_b)) tg4_msg (by decide +kernel) tg4_sha]
  decide +kernel
def tg5_b : List UInt8 := [111, 98, 106, 101, 99, 116, 32, 55, 99, 101, 54, 100, 99, 102, 51, 101, 53, 100, 102, 49, 100, 97, 55, 53, 52, 102, 97, 98, 57, 99, 57, 97, 56, 50, 53, 53, 55, 54, 49, 54, 51, 55, 51, 53, 99, 57, 97, 10, 116, 121, 112, 101, 32, 116, 97, 103, 10, 116, 97, 103, 32, 118, 102, 10, 116, 97, 103, 103, 101, 114, 32, 65, 32, 60, 97, 62, 32, 49, 32, 43, 48, 48, 48, 48, 10, 10]
def tg5_d : Gid := [99, 99, 53, 49, 55, 48, 48, 98, 101, 50, 48, 100, 48, 57, 55, 99, 48, 55, 100, 99, 55, 51, 50, 101, 54, 57, 48, 54, 56, 98, 101, 48, 56, 53, 48, 100, 48, 53, 101, 98]
def tg5_M : List Int := [116, 97, 103, 32, 56, 54, 0, 111, 98, 106, 101, 99, 116, 32, 55, 99, 101, 54, 100, 99, 102, 51, 101, 53, 100, 102, 49, 100, 97, 55, 53, 52, 102, 97, 98, 57, 99, 57, 97, 56, 50, 53, 53, 55, 54, 49, 54, 51, 55, 51, 53, 99, 57, 97, 10, 116, 121, 112, 101, 32, 116, 97, 103, 10, 116, 97, 103, 32, 118, 102, 10, 116, 97, 103, 103, 101, 114, 32, 65, 32, 60, 97, 62, 32, 49, 32, 43, 48, 48, 48, 48, 10, 10, 128, 0, 0, 0, 0, 0, 0, 0, 0, 0, 0, 0, 0, 0, 0, 0, 0, 0, 0, 0, 0, 0, 0, 0, 0, 0, 0, 0, 0, 0, 0, 0, 0, 2, 232]
theorem tg5_head : headL 4 86 = [116, 97, 103, 32, 56, 54, 0] := by
  unfold headL
  rw [digL_2 _ (by decide) (by decide)]
  decide
theorem tg5_sha : shaF 2 tg5_M = [204, 81, 112, 11, 226, 13, 9, 124, 7, 220, 115, 46, 105, 6, 139, 224, 133, 13, 5, 235] := by decide +kernel
theorem tg5_msg : shaMsg ([116, 97, 103, 32, 56, 54, 0] ++ bytesOf (bk tg5_b)) 93 = tg5_M := by decide +kernel
theorem tg5_id : idK 4 tg5_b = tg5_d := by
  unfold idK
  rw [show (bk tg5_b).size = 86 by decide +kernel, tg5_head, shaF_is (xs := [116, 97, 103, 32, 56, 54, 0] ++ bytesOf (bk tg5_b)) tg5_msg (by decide +kernel) tg5_sha]
  decide +kernel
def tg6_b : List UInt8 := [111, 98, 106, 101, 99, 116, 32, 99, 99, 53, 49, 55, 48, 48, 98, 101, 50, 48, 100, 48, 57, 55, 99, 48, 55, 100, 99, 55, 51, 50, 101, 54, 57, 48, 54, 56, 98, 101, 48, 56, 53, 48, 100, 48, 53, 101, 98, 10, 116, 121, 112, 101, 32, 116, 97, 103, 10, 116, 97, 103, 32, 118, 103, 10, 116, 97, 103, 103, 101, 114, 32, 65, 32, 60, 97, 62, 32, 49, 32, 43, 48, 48, 48, 48, 10, 10]
def tg6_d : Gid := [97, 49, 99, 55, 102, 101, 56, 100, 48, 100, 101, 50, 97, 100, 101, 53, 53, 56, 53, 53, 57, 53, 98, 52, 53, 52, 54, 98, 99, 56, 52, 53, 100, 57, 57, 50, 102, 99, 100, 55]
def tg6_M : List Int := [116, 97, 103, 32, 56, 54, 0, 111, 98, 106, 101, 99, 116, 32, 99, 99, 53, 49, 55, 48, 48, 98, 101, 50, 48, 100, 48, 57, 55, 99, 48, 55, 100, 99, 55, 51, 50, 101, 54, 57, 48, 54, 56, 98, 101, 48, 56, 53, 48, 100, 48, 53, 101, 98, 10, 116, 121, 112, 101, 32, 116, 97, 103, 10, 116, 97, 103, 32, 118, 103, 10, 116, 97, 103, 103, 101, 114, 32, 65, 32, 60, 97, 62, 32, 49, 32, 43, 48, 48, 48, 48, 10, 10, 128, 0, 0, 0, 0, 0, 0, 0, 0, 0, 0, 0, 0, 0, 0, 0, 0, 0, 0, 0, 0, 0, 0, 0, 0, 0, 0, 0, 0, 0, 0, 0, 0, 2, 232]
theorem tg6_head : headL 4 86 = [116, 97, 103, 32, 56, 54, 0] := by
  unfold headL
  rw [digL_2 _ (by decide) (by decide)]
  decide
theorem tg6_sha : shaF 2 tg6_M = [161, 199, 254, 141, 13, 226, 173, 229, 88, 85, 149, 180, 84, 107, 200, 69, 217, 146, 252, 215] := by decide +kernel
theorem tg6_msg : shaMsg ([116, 97, 103, 32, 56, 54, 0] ++ bytesOf (bk tg6_b)) 93 = tg6_M := by decide +kernel
theorem tg6_id : idK 4 tg6_b = tg6_d := by
  unfold idK
  rw [show (bk tg6_b).size = 86 by decide +kernel, tg6_head, shaF_is (xs := [116, 97, 103, 32, 56, 54, 0] ++ bytesOf (bk tg6_b)) tg6_msg (by decide +kernel) tg6_sha]
  decide +kernel
def tg7_b : List UInt8 := [111, 98, 106, 101, 99, 116, 32, 97, 49, 99, 55, 102, 101, 56, 100, 48, 100, 101, 50, 97, 100, 101, 53, 53, 56, 53, 53, 57, 53, 98, 52, 53, 52, 54, 98, 99, 56, 52, 53, 100, 57, 57, 50, 102, 99, 100, 55, 10, 116, 121, 112, 101, 32, 116, 97, 103, 10, 116, 97, 103, 32, 118, 104, 10, 116, 97, 103, 103, 101, 114, 32, 65, 32, 60, 97, 62, 32, 49, 32, 43, 48, 48, 48, 48, 10, 10]
def tg7_d : Gid := [100, 51, 53, 55, 56, 50, 57, 52, 52, 99, 50, 48, 100, 102, 57, 54, 99, 100, 56, 49, 57, 51, 98, 56, 53, 53, 52, 102, 97, 55, 98, 101, 56, 50, 98, 57, 55, 53, 100, 102]
def tg7_M : List Int := [116, 97, 103, 32, 56, 54, 0, 111, 98, 106, 101, 99, 116, 32, 97, 49, 99, 55, 102, 101, 56, 100, 48, 100, 101, 50, 97, 100, 101, 53, 53, 56, 53, 53, 57, 53, 98, 52, 53, 52, 54, 98, 99, 56, 52, 53, 100, 57, 57, 50, 102, 99, 100, 55, 10, 116, 121, 112, 101, 32, 116, 97, 103, 10, 116, 97, 103, 32, 118, 104, 10, 116, 97, 103, 103, 101, 114, 32, 65, 32, 60, 97, 62, 32, 49, 32, 43, 48, 48, 48, 48, 10, 10, 128, 0, 0, 0, 0, 0, 0, 0, 0, 0, 0, 0, 0, 0, 0, 0, 0, 0, 0, 0, 0, 0, 0, 0, 0, 0, 0, 0, 0, 0, 0, 0, 0, 2, 232]
theorem tg7_head : headL 4 86 = [116, 97, 103, 32, 56, 54, 0] := by
  unfold headL
  rw [digL_2 _ (by decide) (by decide)]
  decide
theorem tg7_sha : shaF 2 tg7_M = [211, 87, 130, 148, 76, 32, 223, 150, 205, 129, 147, 184, 85, 79, 167, 190, 130, 185, 117, 223] := by decide +kernel
theorem tg7_msg : shaMsg ([116, 97, 103, 32, 56, 54, 0] ++ bytesOf (bk tg7_b)) 93 = tg7_M := by decide +kernel
theorem tg7_id : idK 4 tg7_b = tg7_d := by
  unfold idK
  rw [show (bk tg7_b).size = 86 by decide +kernel, tg7_head, shaF_is (xs := [116, 97, 103, 32, 56, 54, 0] ++ bytesOf (bk tg7_b)) tg7_msg (by decide +kernel) tg7_sha]
  decide +kernel
def tg8_b : List UInt8 := [111, 98, 106, 101, 99, 116, 32, 100, 51, 53, 55, 56, 50, 57, 52, 52, 99, 50, 48, 100, 102, 57, 54, 99, 100, 56, 49, 57, 51, 98, 56, 53, 53, 52, 102, 97, 55, 98, 101, 56, 50, 98, 57, 55, 53, 100, 102, 10, 116, 121, 112, 101, 32, 116, 97, 103, 10, 116, 97, 103, 32, 118, 105, 10, 116, 97, 103, 103, 101, 114, 32, 65, 32, 60, 97, 62, 32, 49, 32, 43, 48, 48, 48, 48, 10, 10]
def tg8_d : Gid := [100, 53, 100, 57, 51, 50, 100, 55, 55, 51, 99, 55, 51, 54, 54, 51, 50, 53, 102, 53, 52, 48, 56, 57, 98, 99, 57, 97, 49, 51, 102, 101, 101, 56, 51, 57, 98, 54, 99, 98]
def tg8_M : List Int := [116, 97, 103, 32, 56, 54, 0, 111, 98, 106, 101, 99, 116, 32, 100, 51, 53, 55, 56, 50, 57, 52, 52, 99, 50, 48, 100, 102, 57, 54, 99, 100, 56, 49, 57, 51, 98, 56, 53, 53, 52, 102, 97, 55, 98, 101, 56, 50, 98, 57, 55, 53, 100, 102, 10, 116, 121, 112, 101, 32, 116, 97, 103, 10, 116, 97, 103, 32, 118, 105, 10, 116, 97, 103, 103, 101, 114, 32, 65, 32, 60, 97, 62, 32, 49, 32, 43, 48, 48, 48, 48, 10, 10, 128, 0, 0, 0, 0, 0, 0, 0, 0, 0, 0, 0, 0, 0, 0, 0, 0, 0, 0, 0, 0, 0, 0, 0, 0, 0, 0, 0, 0, 0, 0, 0, 0, 2, 232]
theorem tg8_head : headL 4 86 = [116, 97, 103, 32, 56, 54, 0] := by
  unfold headL
  rw [digL_2 _ (by decide) (by decide)]
  decide
theorem tg8_sha : shaF 2 tg8_M = [213, 217, 50, 215, 115, 199, 54, 99, 37, 245, 64, 137, 188, 154, 19, 254, 232, 57, 182, 203] := by decide +kernel
theorem tg8_msg : shaMsg ([116, 97, 103, 32, 56, 54, 0] ++ bytesOf (bk tg8_b)) 93 = tg8_M := by decide +kernel
theorem tg8_id : idK 4 tg8_b = tg8_d := by
  unfold idK
  rw [show (bk tg8_b).size = 86 by decide +kernel, tg8_head, shaF_is (xs := [116, 97, 103, 32, 56, 54, 0] ++ bytesOf (bk tg8_b)) tg8_msg (by decide +kernel) tg8_sha]
  decide +kernel
def tg9_b : List UInt8 := [111, 98, 106, 101, 99, 116, 32, 100, 53, 100, 57, 51, 50, 100, 55, 55, 51, 99, 55, 51, 54, 54, 51, 50, 53, 102, 53, 52, 48, 56, 57, 98, 99, 57, 97, 49, 51, 102, 101, 101, 56, 51, 57, 98, 54, 99, 98, 10, 116, 121, 112, 101, 32, 116, 97, 103, 10, 116, 97, 103, 32, 118, 106, 10, 116, 97, 103, 103, 101, 114, 32, 65, 32, 60, 97, 62, 32, 49, 32, 43, 48, 48, 48, 48, 10, 10]
def tg9_d : Gid := [97, 101, 50, 50, 97, 55, 102, 51, 51, 51, 100, 49, 56, 48, 48, 98, 49, 51, 50, 50, 98, 50, 100, 56, 99, 54, 53, 53, 53, 49, 52, 100, 49, 101, 54, 56, 102, 97, 100, 48]
def tg9_M : List Int := [116, 97, 103, 32, 56, 54, 0, 111, 98, 106, 101, 99, 116, 32, 100, 53, 100, 57, 51, 50, 100, 55, 55, 51, 99, 55, 51, 54, 54, 51, 50, 53, 102, 53, 52, 48, 56, 57, 98, 99, 57, 97, 49, 51, 102, 101, 101, 56, 51, 57, 98, 54, 99, 98, 10, 116, 121, 112, 101, 32, 116, 97, 103, 10, 116, 97, 103, 32, 118, 106, 10, 116, 97, 103, 103, 101, 114, 32, 65, 32, 60, 97, 62, 32, 49, 32, 43, 48, 48, 48, 48, 10, 10, 128, 0, 0, 0, 0, 0, 0, 0, 0, 0, 0, 0, 0, 0, 0, 0, 0, 0, 0, 0, 0, 0, 0, 0, 0, 0, 0, 0, 0, 0, 0, 0, 0, 2, 232]
theorem tg9_head : headL 4 86 = [116, 97, 103, 32, 56, 54, 0] := by
  unfold headL
  rw [digL_2 _ (by decide) (by decide)]
  decide
theorem tg9_sha : shaF 2 tg9_M = [174, 34, 167, 243, 51, 209, 128, 11, 19, 34, 178, 216, 198, 85, 81, 77, 30, 104, 250, 208] := by decide +kernel
theorem tg9_msg : shaMsg ([116, 97, 103, 32, 56, 54, 0] ++ bytesOf (bk tg9_b)) 93 = tg9_M := by decide +kernel
theorem tg9_id : idK 4 tg9_b = tg9_d := by
  unfold idK
  rw [show (bk tg9_b).size = 86 by decide +kernel, tg9_head, shaF_is (xs := [116, 97, 103, 32, 56, 54, 0] ++ bytesOf (bk tg9_b)) tg9_msg (by decide +kernel) tg9_sha]
  decide +kernel
def tg10_b : List UInt8 := [111, 98, 106, 101, 99, 116, 32, 97, 101, 50, 50, 97, 55, 102, 51, 51, 51, 100, 49, 56, 48, 48, 98, 49, 51, 50, 50, 98, 50, 100, 56, 99, 54, 53, 53, 53, 49, 52, 100, 49, 101, 54, 56, 102, 97, 100, 48, 10, 116, 121, 112, 101, 32, 116, 97, 103, 10, 116, 97, 103, 32, 118, 107, 10, 116, 97, 103, 103, 101, 114, 32, 65, 32, 60, 97, 62, 32, 49, 32, 43, 48, 48, 48, 48, 10, 10]
def tg10_d : Gid := [57, 102, 102, 101, 53, 48, 97, 48, 48, 52, 100, 56, 99, 98, 56, 54, 48, 54, 54, 57, 54, 57, 101, 99, 100, 101, 54, 100, 97, 102, 55, 99, 97, 101, 101, 99, 55, 49, 102, 50]
def tg10_M : List Int := [116, 97, 103, 32, 56, 54, 0, 111, 98, 106, 101, 99, 116, 32, 97, 101, 50, 50, 97, 55, 102, 51, 51, 51, 100, 49, 56, 48, 48, 98, 49, 51, 50, 50, 98, 50, 100, 56, 99, 54, 53, 53, 53, 49, 52, 100, 49, 101, 54, 56, 102, 97, 100, 48, 10, 116, 121, 112, 101, 32, 116, 97, 103, 10, 116, 97, 103, 32, 118, 107, 10, 116, 97, 103, 103, 101, 114, 32, 65, 32, 60, 97, 62, 32, 49, 32, 43, 48, 48, 48, 48, 10, 10, 128, 0, 0, 0, 0, 0, 0, 0, 0, 0, 0, 0, 0, 0, 0, 0, 0, 0, 0, 0, 0, 0, 0, 0, 0, 0, 0, 0, 0, 0, 0, 0, 0, 2, 232]
theorem tg10_head : headL 4 86 = [116, 97, 103, 32, 56, 54, 0] := by
  unfold headL
  rw [digL_2 _ (by decide) (by decide)]
  decide
theorem tg10_sha : shaF 2 tg10_M = [159, 254, 80, 160, 4, 216, 203, 134, 6, 105, 105, 236, 222, 109, 175, 124, 174, 236, 113, 242] := by decide +kernel
theorem tg10_msg : shaMsg ([116, 97, 103, 32, 56, 54, 0] ++ bytesOf (bk tg10_b)) 93 = tg10_M := by decide +kernel
theorem tg10_id : idK 4 tg10_b = tg10_d := by
  unfold idK
  rw [show (bk tg10_b).size = 86 by decide +kernel, tg10_head, shaF_is (xs := [116, 97, 103, 32, 56, 54, 0] ++ bytesOf (bk tg10_b)) tg10_msg (by decide +kernel) tg10_sha]
  decide +kernel
def tg11_b : List UInt8 := [111, 98, 106, 101, 99, 116, 32, 57, 102, 102, 101, 53, 48, 97, 48, 48, 52, 100, 56, 99, 98, 56, 54, 48, 54, 54, 57, 54, 57, 101, 99, 100, 101, 54, 100, 97, 102, 55, 99, 97, 101, 101, 99, 55, 49, 102, 50, 10, 116, 121, 112, 101, 32, 116, 97, 103, 10, 116, 97, 103, 32, 118, 108, 10, 116, 97, 103, 103, 101, 114, 32, 65, 32, 60, 97, 62, 32, 49, 32, 43, 48, 48, 48, 48, 10, 10]
def tg11_d : Gid := [102, 98, 97, 98, 98, 54, 50, 51, 52, 57, 54, 48, 54, 48, 101, 50, 102, 56, 48, 49, 50, 51, 98, 97, 101, 99, 101, 97, 57, 49, 48, 48, 51, 102, 52, 97, 53, 55, 56, 101]
def tg11_M : List Int := [116, 97, 103, 32, 56, 54, 0, 111, 98, 106, 101, 99, 116, 32, 57, 102, 102, 101, 53, 48, 97, 48, 48, 52, 100, 56, 99, 98, 56, 54, 48, 54, 54, 57, 54, 57, 101, 99, 100, 101, 54, 100, 97, 102, 55, 99, 97, 101, 101, 99, 55, 49, 102, 50, 10, 116, 121, 112, 101, 32, 116, 97, 103, 10, 116, 97, 103, 32, 118, 108, 10, 116, 97, 103, 103, 101, 114, 32, 65, 32, 60, 97, 62, 32, 49, 32, 43, 48, 48, 48, 48, 10, 10, 128, 0, 0, 0, 0, 0, 0, 0, 0, 0, 0, 0, 0, 0, 0, 0, 0, 0, 0, 0, 0, 0, 0, 0, 0, 0, 0, 0, 0, 0, 0, 0, 0, 2, 232]
theorem tg11_head : headL 4 86 = [116, 97, 103, 32, 56, 54, 0] := by
  unfold headL
  rw [digL_2 _ (by decide) (by decide)]
  decide
theorem tg11_sha : shaF 2 tg11_M = [251, 171, 182, 35, 73, 96, 96, 226, 248, 1, 35, 186, 236, 234, 145, 0, 63, 74, 87, 142] := by decide +kernel
theorem tg11_msg : shaMsg ([116, 97, 103, 32, 56, 54, 0] ++ bytesOf (bk tg11_b)) 93 = tg11_M := by decide +kernel
theorem tg11_id : idK 4 tg11_b = tg11_d := by
  unfold idK
  rw [show (bk tg11_b).size = 86 by decide +kernel, tg11_head, shaF_is (xs := [116, 97, 103, 32, 56, 54, 0] ++ bytesOf (bk tg11_b)) tg11_msg (by decide +kernel) tg11_sha]
  decide +kernel
def tg12_b : List UInt8 := [111, 98, 106, 101, 99, 116, 32, 102, 98, 97, 98, 98, 54, 50, 51, 52, 57, 54, 48, 54, 48, 101, 50, 102, 56, 48, 49, 50, 51, 98, 97, 101, 99, 101, 97, 57, 49, 48, 48, 51, 102, 52, 97, 53, 55, 56, 101, 10, 116, 121, 112, 101, 32, 116, 97, 103, 10, 116, 97, 103, 32, 118, 109, 10, 116, 97, 103, 103, 101, 114, 32, 65, 32, 60, 97, 62, 32, 49, 32, 43, 48, 48, 48, 48, 10, 10]
def tg12_d : Gid := [49, 97, 51, 53, 55, 55, 101, 48, 102, 48, 53, 50, 50, 100, 48, 56, 53, 52, 101, 98, 100, 49, 53, 100, 49, 53, 100, 52, 57, 97, 53, 48, 51, 100, 99, 53, 99, 97, 98, 100]
def tg12_M : List Int := [116, 97, 103, 32, 56, 54, 0, 111, 98, 106, 101, 99, 116, 32, 102, 98, 97, 98, 98, 54, 50, 51, 52, 57, 54, 48, 54, 48, 101, 50, 102, 56, 48, 49, 50, 51, 98, 97, 101, 99, 101, 97, 57, 49, 48, 48, 51, 102, 52, 97, 53, 55, 56, 101, 10, 116, 121, 112, 101, 32, 116, 97, 103, 10, 116, 97, 103, 32, 118, 109, 10, 116, 97, 103, 103, 101, 114, 32, 65, 32, 60, 97, 62, 32, 49, 32, 43, 48, 48, 48, 48, 10, 10, 128, 0, 0, 0, 0, 0, 0, 0, 0, 0, 0, 0, 0, 0, 0, 0, 0, 0, 0, 0, 0, 0, 0, 0, 0, 0, 0, 0, 0, 0, 0, 0, 0, 2, 232]
theorem tg12_head : headL 4 86 = [116, 97, 103, 32, 56, 54, 0] := by
  unfold headL
  rw [digL_2 _ (by decide) (by decide)]
  decide
theorem tg12_sha : shaF 2 tg12_M = [26, 53, 119, 224, 240, 82, 45, 8, 84, 235, 209, 93, 21, 212, 154, 80, 61, 197, 202, 189] := by decide +kernel
theorem tg12_msg : shaMsg ([116, 97, 103, 32, 56, 54, 0] ++ bytesOf (bk tg12_b)) 93 = tg12_M := by decide +kernel
theorem tg12_id : idK 4 tg12_b = tg12_d := by
  unfold idK
  rw [show (bk tg12_b).size = 86 by decide +kernel, tg12_head, shaF_is (xs := [116, 97, 103, 32, 56, 54, 0] ++ bytesOf (bk tg12_b)) tg12_msg (by decide +kernel) tg12_sha]
  decide +kernel
def tgB (i : Nat) : List UInt8 := ([tg0_b, tg1_b, tg2_b, tg3_b, tg4_b, tg5_b, tg6_b, tg7_b, tg8_b, tg9_b, tg10_b, tg11_b, tg12_b] : List (List UInt8)).getD i []
def tgD (i : Nat) : Gid := ([cm_d, tg0_d, tg1_d, tg2_d, tg3_d, tg4_d, tg5_d, tg6_d, tg7_d, tg8_d, tg9_d, tg10_d, tg11_d, tg12_d] : List Gid).getD i []
def tgR (k : Nat) : List Kn := [⟨2, [], et_d⟩, ⟨1, cm_b, cm_d⟩] ++ (List.range k).map fun i => ⟨4, tgB i, tgD (i + 1)⟩
def kndW (k : Nat) : ByteArray := if k = 0 then ⟨#[99, 111, 109, 109, 105, 116]⟩ else ⟨#[116, 97, 103]⟩
def tgTxt (k : Nat) : ByteArray := (⟨#[111, 98, 106, 101, 99, 116, 32]⟩ : ByteArray) ++ bk (tgD k) ++ ⟨#[10, 116, 121, 112, 101, 32]⟩ ++ kndW k ++ ⟨#[10, 116, 97, 103, 32, 118]⟩ ++ strOfNums [97 + (k : Int)] ++ ⟨#[10, 116, 97, 103, 103, 101, 114, 32]⟩ ++ ⟨#[65, 32, 60, 97, 62, 32, 49, 32, 43, 48, 48, 48, 48]⟩ ++ ⟨#[10, 10]⟩
theorem cm_txt : (⟨#[116, 114, 101, 101, 32]⟩ : ByteArray) ++ bk et_d ++ ⟨#[10, 97, 117, 116, 104, 111, 114, 32]⟩ ++ ⟨#[65, 32, 60, 97, 62, 32, 49, 32, 43, 48, 48, 48, 48]⟩ ++ ⟨#[10, 99, 111, 109, 109, 105, 116, 116, 101, 114, 32]⟩ ++ ⟨#[65, 32, 60, 97, 62, 32, 49, 32, 43, 48, 48, 48, 48]⟩ ++ ⟨#[10, 10, 109]⟩ = bk cm_b := by kernel_rfl
theorem tg_txt_all : (List.range 13).all (fun k => (tgTxt k).data.toList == tgB k) = true := by decide +kernel
theorem tg_txt {k : Nat} (h : k < 13) : tgTxt k = bk (tgB k) := by
  have := eq_of_beq (List.all_eq_true.1 tg_txt_all k (List.mem_range.2 h))
  rw [← this, bk_of]
theorem tg_new_all : (List.range 13).all (fun k => (getK (tgR k) (tgD (k + 1))).isNone) = true := by decide +kernel
theorem tg_id {k : Nat} (h : k < 13) : idK 4 (tgB k) = tgD (k + 1) := by
  match k, h with
  | 0, _ => exact tg0_id
  | 1, _ => exact tg1_id
  | 2, _ => exact tg2_id
  | 3, _ => exact tg3_id
  | 4, _ => exact tg4_id
  | 5, _ => exact tg5_id
  | 6, _ => exact tg6_id
  | 7, _ => exact tg7_id
  | 8, _ => exact tg8_id
  | 9, _ => exact tg9_id
  | 10, _ => exact tg10_id
  | 11, _ => exact tg11_id
  | 12, _ => exact tg12_id
theorem tg_add {k : Nat} (h : k < 13) : addK (tgR k) 4 (tgB k) = tgR (k + 1) := by
  have := List.all_eq_true.1 tg_new_all k (List.mem_range.2 h)
  unfold addK
  rw [tg_id h, if_neg (by cases hg : getK (tgR k) (tgD (k + 1)) with | none => simp | some x => rw [hg] at this; simp at this)]
  unfold tgR
  rw [List.range_succ, List.map_append, List.append_assoc]
  rfl
theorem cm_add : addK [⟨2, [], et_d⟩] 1 cm_b = tgR 0 := by
  unfold addK
  rw [cm_id]
  rfl
theorem tg_clos_all : (List.range 14).all (fun N => match closR (withoutK (tgR N) []) (univK (tgR N) [tgD N]) [tgD N] 100 with | .ok m => m.length == N + 2 | .error _ => false) = true := by decide +kernel
theorem tg_gone_all : (List.range 14).all (fun N => match closR (withoutK (tgR N) et_d) (univK (tgR N) [tgD N]) [tgD N] 100 with | .ok _ => false | .error x => x == 61) = true := by decide +kernel
theorem tg_peel_all : (List.range 14).all (fun N => peelG (withoutK (tgR N) []) 11 (tgD N) == if N ≤ 10 then some (cm_d, 1) else none) = true := by decide +kernel
theorem tg_len_all : (List.range 14).all (fun N => decide ((tgD N).length = 40) && (tgR N).all (fun x => decide (x.b.length ≤ 2000))) = true := by decide +kernel
end Go.Proofs.YtihanglnjghcfaaGreatDoor
namespace Go.Proofs.YtihanglnjghcfaaGreatDoor
open Go.RowKit Go.Maps
set_option linter.unusedVariables false
set_option linter.unusedSimpArgs false

/-- Peel by way of the law's Get. -/
theorem peel_get {B r b1 b2 : Nat} {W : World} {R : List Kn} {gone : Gid} (hR : RepAt W (fun k => B ≤ k) r R) (hl : R.length ≤ 1073741824) (hE : EnvO W)
    (ht : 1 < B ∧ 2 < B) (h1 : B ≤ b1) (h2 : B ≤ b2) (k1 : W.cell? ⟨b1, 0, none⟩ = some (.pointer (some ⟨r, 0, none⟩))) (k2 : W.cell? ⟨b2, 0, none⟩ = some (.string (bk gone))) (hz : ∀ x ∈ R, x.b.length ≤ 268435456) (d : Gid) :
    Calls Tryz.prog 22 #[fnV 38 (.pointer (some ⟨b1, 0, none⟩)) (.pointer (some ⟨b2, 0, none⟩)), .string (bk d)] W fun e w' =>
      RepAt w' (fun k => B ≤ k) r R ∧ Chg (fun k => B ≤ k) W w' ∧ e = .returned (peelV (peelG (withoutK R gone) 11 d)) := by
  have hst : GetSt r b1 b2 R gone (fun k => B ≤ k ∧ k < W.heap.size) [] W := ⟨fun k h => h.2, hR.mono fun k hk hl => ⟨hk, hl⟩, ⟨h1, block_lt k1⟩, ⟨h2, block_lt k2⟩, k1, k2⟩
  have hB : B ≤ W.heap.size := by have h3 : b1 < W.heap.size := block_lt k1; omega
  refine (peel_any (getter_get r b1 b2 R gone hl (fun x hx => by have := hz x hx; omega)) _ [] W d hst hE (fun h => by have := h.1; omega) (fun h => by have := h.1; omega) (fun d o h => hz o (by
    unfold withoutK at h
    split at h
    · cases h
    · exact getK_mem h))).mono ?_
  rintro e w' ⟨F', qs', hst', hc, hf, ha⟩
  refine ⟨hst'.2.1.mono fun k hk _ => ?_, hc.mono fun k _ h => h.1, ha⟩
  rcases hf k hk with h | h
  · exact h.1
  · omega
theorem tg_len {N : Nat} (h : N < 14) : (tgD N).length = 40 ∧ ∀ x ∈ tgR N, x.b.length ≤ 2000 := by
  have := List.all_eq_true.1 tg_len_all N (List.mem_range.2 h)
  rw [Bool.and_eq_true] at this
  exact ⟨of_decide_eq_true this.1, fun x hx => of_decide_eq_true (List.all_eq_true.1 this.2 x hx)⟩
theorem tg_clos {N : Nat} (h : N < 14) : ∃ m, closR (withoutK (tgR N) []) (univK (tgR N) [tgD N]) [tgD N] 100 = .ok m ∧ m.length = N + 2 := by
  have h2 := List.all_eq_true.1 tg_clos_all N (List.mem_range.2 h)
  cases hc : closR (withoutK (tgR N) []) (univK (tgR N) [tgD N]) [tgD N] 100 with
  | error x => rw [hc] at h2; simp at h2
  | ok m => rw [hc] at h2; exact ⟨m, rfl, by simpa using h2⟩
theorem tg_gone {N : Nat} (h : N < 14) : closR (withoutK (tgR N) et_d) (univK (tgR N) [tgD N]) [tgD N] 100 = .error 61 := by
  have h2 := List.all_eq_true.1 tg_gone_all N (List.mem_range.2 h)
  cases hc : closR (withoutK (tgR N) et_d) (univK (tgR N) [tgD N]) [tgD N] 100 with
  | error x => rw [hc] at h2; have h3 : x = 61 := by simpa using h2
               rw [h3]
  | ok m => rw [hc] at h2; simp at h2
theorem tg_peel {N : Nat} (h : N < 14) : peelG (withoutK (tgR N) []) 11 (tgD N) = if N ≤ 10 then some (cm_d, 1) else none :=
  eq_of_beq (List.all_eq_true.1 tg_peel_all N (List.mem_range.2 h))
theorem tgR_len (N : Nat) : (tgR N).length = N + 2 := by unfold tgR; simp
theorem mod14 (x : Int) : ∃ (y : Int) (N : Nat), x.tmod 14 = y ∧ -14 < y ∧ y < 14 ∧ (y + 14).tmod 14 = (N : Int) ∧ N < 14 := by
  have h1 := Int.tmod_lt_of_pos x (show (0 : Int) < 14 by decide)
  have h2 := Int.lt_tmod_of_pos x (show (0 : Int) < 14 by decide)
  refine ⟨x.tmod 14, ((x.tmod 14 + 14).tmod 14).toNat, rfl, by omega, by omega, ?_, ?_⟩
  · have h3 : 0 ≤ (x.tmod 14 + 14).tmod 14 := Int.tmod_nonneg _ (by omega)
    omega
  · have h4 := Int.tmod_lt_of_pos (x.tmod 14 + 14) (show (0 : Int) < 14 by decide)
    omega
set_option maxRecDepth 100000 in
set_option maxHeartbeats 4000000 in
theorem graphTags_walk (hSo : SortsS) (x : Int) (w : World) (hE : EnvO w) (hx : x ≤ 9223372036854775807) : Calls Tryz.prog 5 #[.int .i64 x] w fun e w' => e = .returned (.bool true) ∧ Below w.heap.size w w' := by
  obtain ⟨y, N, hy, hy1, hy2, hyz, hN⟩ := mod14 x
  have hyw : IntKind.i64.wrap (y + 14) = y + 14 := IntWalk.i64_in _ (by omega)
  have HN := Lib.hid hN
  have HSO := Lib.hid hSo
  have HE := Lib.hid hE
  have HLT := Lib.hid hE.lt
  have hR0 := RepAt.new w ⟨#[]⟩
  have hB0 : Below w.heap.size w (w.alloc (.cells #[.slice none 0 0, .slice none 0 0, .string ⟨#[]⟩, .bool false] 47)) := (Below.refl _ _).alloc (Nat.le_refl _) _
  clear hSo hE hx hN hy1 hy2
  go_enter Tryz.func5, Tryz.ntmps5
  go_upto_region 3 with (fail)
  generalize w.alloc (.cells #[.slice none 0 0, .slice none 0 0, .string ⟨#[]⟩, .bool false] 47) = w1 at *
  have HR0 := Lib.hid hR0
  have HB0 := Lib.hid hB0
  clear hR0 hB0 hy hyw hyz
  have HA1 := radd_any (fun k => w.heap.size ≤ k) w.heap.size [] 2 [] w1 HR0.out (fun k hk => by have := HB0.out.size; omega) (by simp) (by simp)
  have HA1 := Lib.hid HA1
  unfold AddK at HA1
  rw [aw_one, show idK 2 [] = et_d from et_id, show bk [] = ⟨#[]⟩ from rfl] at HA1
  go_wp2_with fail
  refine HA1.out.mono ?_
  rintro e w2 ⟨rfl, hr2, hc2⟩
  have HR2 := Lib.hid hr2
  have HB2 := Lib.hid (HB0.out.trans (hc2.below HB0.out.size (fun k hk h => by have h2 : w.heap.size ≤ k := h; omega)))
  clear hr2 hc2 HA1
  have HA2 := radd_any (fun k => w.heap.size ≤ k) w.heap.size [⟨2, [], et_d⟩] 1 cm_b w2 HR2.out (fun k hk => by have := HB2.out.size; omega) (by simp) (by decide)
  have HA2 := Lib.hid HA2
  unfold AddK at HA2
  rw [cm_add, cm_id, ← cm_txt] at HA2
  have hs40 : (bk et_d).size = 40 := by decide +kernel
  go_wp2_with fail
  refine HA2.out.mono ?_
  rintro e w3 ⟨rfl, hr3, hc3⟩
  have HR3 : Hid (RepAt w3 (fun k => w.heap.size ≤ k) w.heap.size (tgR 0)) := Lib.hid hr3
  have HB3 := Lib.hid (HB2.out.trans (hc3.below HB2.out.size (fun k hk h => by have h2 : w.heap.size ≤ k := h; omega)))
  clear hr3 hc3 HA2 hs40
  go_wp2
  go_loopw [6, 7, 8] (fun v6 v7 v8 wr => ∃ k : Nat, v8 = .int .i64 k ∧ v6 = .string (bk (tgD k)) ∧ v7 = .string (kndW k) ∧ k ≤ N ∧ RepAt wr (fun k => w.heap.size ≤ k) w.heap.size (tgR k) ∧ Below w.heap.size w wr) (fun _ _ v8 _ => N - (intOf v8).toNat)
  case atStart => exact ⟨0, rfl, rfl, rfl, by omega, HR3.out, HB3.out⟩
  case round =>
    obtain ⟨k, rfl, rfl, rfl, hk, hr, hb⟩ := hrel
    have HR := Lib.hid hr
    have HB := Lib.hid hb
    clear hr hb
    by_cases hlt : k < N
    · have d1 : decide ((k : Int) < (N : Int)) = true := decide_eq_true (by omega)
      have d1' : decide (k < N) = true := decide_eq_true hlt
      have hk13 : k < 13 := by have := HN.out; omega
      have HK13 := Lib.hid hk13
      have r3 : IntKind.u8.wrap (k : Int) = (k : Int) := by rw [IntKind.wrap_u8']; omega
      have r5 : IntKind.u8.wrap (97 + (k : Int)) = 97 + (k : Int) := by rw [IntKind.wrap_u8']; omega
      have hcv : (convert 48 9 (.slice (some ⟨wr.heap.size, 0, none⟩) 1 1)).run Tryz.prog (wr.alloc (.cells #[.int .u8 (97 + (k : Int))] 5)) = .ok (.string (strOfNums [97 + (k : Int)])) (wr.alloc (.cells #[.int .u8 (97 + (k : Int))] 5)) :=
        run_str_ints (P := Tryz.prog) (w := wr.alloc (.cells #[.int .u8 (97 + (k : Int))] 5)) 48 9 5 Tryz.underlying48 Tryz.underlying5 Tryz.underlying9 (some ⟨wr.heap.size, 0, none⟩) 1 [97 + (k : Int)] (fun _ => ⟨_, 0, rfl, by simp, fun j hj => by
          obtain rfl : j = 0 := by simpa using hj
          rw [cell_of_row _ _ _ _ _ _ (heap_alloc_new wr _)]; rfl⟩)
      have z1 : (bk (tgD k)).size = 40 := by rw [bk_size]; exact (tg_len (by omega)).1
      have z2 : (kndW k).size ≤ 6 := by unfold kndW; split <;> decide
      have z3 : (strOfNums [97 + (k : Int)]).size = 1 := strOfNums_size _
      have hw1 : IntKind.i64.wrap ((k : Int) + 1) = (k : Int) + 1 := IntWalk.i64_in _ (by omega)
      have hba : Below wr.heap.size wr (wr.alloc (.cells #[.int .u8 (97 + (k : Int))] 5)) := (Below.refl _ _).alloc (Nat.le_refl _) _
      have hbw : Below w.heap.size w (wr.alloc (.cells #[.int .u8 (97 + (k : Int))] 5)) := HB.out.trans (hba.mono HB.out.size)
      have HAD := radd_any (fun k => w.heap.size ≤ k) w.heap.size (tgR k) 4 (tgB k) (wr.alloc (.cells #[.int .u8 (97 + (k : Int))] 5)) (HR.out.below hba) (fun q hq => by have := hbw.size; omega) (by rw [tgR_len]; omega) (by
        have := (tg_len (N := k + 1) (by omega)).2 ⟨4, tgB k, tgD (k + 1)⟩ (by
          unfold tgR
          refine List.mem_append_right _ (List.mem_map.2 ⟨k, List.mem_range.2 (by omega), rfl⟩))
        have h3 : (tgB k).length ≤ 2000 := this
        omega)
      have HAD := Lib.hid HAD
      unfold AddK at HAD
      rw [tg_add hk13, tg_id hk13, ← tg_txt hk13] at HAD
      unfold tgTxt at HAD
      have HBW := Lib.hid hbw
      have HKN : Hid ((⟨#[116, 97, 103]⟩ : ByteArray) = kndW (k + 1)) := Lib.hid (by unfold kndW; rw [if_neg (by omega)])
      generalize hkd : kndW k = kd at *
      clear hba hbw hk13 hkd
      go_wp2_with fail
      refine HAD.out.mono ?_
      rintro e w4 ⟨rfl, hr4, hc4⟩
      have HR4 := Lib.hid hr4
      have HB4 := Lib.hid (HBW.out.trans (hc4.below HBW.out.size (fun q hq h => by have h2 : w.heap.size ≤ q := h; omega)))
      clear hr4 hc4 HAD
      go_wp2
      go_roundw
      case rel => exact ⟨k + 1, rfl, rfl, by rw [HKN.out], hlt, HR4.out, HB4.out⟩
      case measure => simp [intOf]; omega
    · have d1 : decide ((k : Int) < (N : Int)) = false := decide_eq_false (by omega)
      have d1' : decide (k < N) = false := decide_eq_false hlt
      obtain rfl : k = N := by omega
      have HEB : Hid (∀ W, Below w.heap.size w W → EnvO W) := Lib.hid (fun W hb => HE.out.below hb)
      have HZ : Hid (∀ x ∈ tgR k, x.b.length ≤ 268435456) := Lib.hid (fun x hx => by have := (tg_len HN.out).2 x hx; omega)
      have HUN : Hid (∀ gone, Univ (withoutK (tgR k) gone) (univK (tgR k) [tgD k])) := Lib.hid (fun gone => univ_of (R := tgR k) (fun d o h => by
        unfold withoutK at h
        split at h
        · cases h
        · exact getK_mem h) (by rw [tgR_len]; have := HN.out; omega) (by simp) (tg_len HN.out).2)
      have HRT : Hid (∀ r ∈ [tgD k], r.length ≤ 1099511627776) := Lib.hid (by intro q hq; simp at hq; subst hq; rw [(tg_len HN.out).1]; omega)
      have HGT0 := Lib.hid (fun W => get_any W w.heap.size [])
      have HGT1 := Lib.hid (fun W => get_any W w.heap.size et_d)
      rw [show bk [] = ⟨#[]⟩ from rfl] at HGT0
      have HPL : Hid (∀ (W W1 : World) (b1 b2 : Nat), Below w.heap.size w W → RepAt W (fun k => w.heap.size ≤ k) w.heap.size (tgR k) → Below W.heap.size W W1 → b1 = W.heap.size → b2 = W.heap.size + 1 → W1.cell? ⟨b1, 0, none⟩ = some (.pointer (some ⟨w.heap.size, 0, none⟩)) → W1.cell? ⟨b2, 0, none⟩ = some (.string ⟨#[]⟩) →
          Calls Tryz.prog 22 #[.func (.func 38) #[] #[.pointer (some ⟨b1, 0, none⟩), .pointer (some ⟨b2, 0, none⟩)], .string (bk (tgD k))] W1 fun e w' =>
            RepAt w' (fun k => w.heap.size ≤ k) w.heap.size (tgR k) ∧ Below w.heap.size w w' ∧ e = .returned (peelV (peelG (withoutK (tgR k) []) 11 (tgD k)))) := Lib.hid (fun W W1 b1 b2 hb hR hb1 e1 e2 k1 k2 => by
        have hs := hb.size
        have hbW1 : Below w.heap.size w W1 := hb.trans (hb1.mono hs)
        refine (peel_get (B := w.heap.size) (b1 := b1) (b2 := b2) (hR.below hb1) (by rw [tgR_len]; have := HN.out; omega) (HEB.out _ hbW1) HLT.out (by omega) (by omega) k1 k2 HZ.out (tgD k)).mono ?_
        rintro e w' ⟨hR', hc', ha⟩
        exact ⟨hR', hbW1.trans (hc'.below hbW1.size (fun k hk h => by omega)), ha⟩)
      have HCL : Hid (∀ (gone : Gid) (W W1 : World) (b1 b2 : Nat), Below w.heap.size w W → RepAt W (fun k => w.heap.size ≤ k) w.heap.size (tgR k) → Below W.heap.size W W1 → b1 = W.heap.size → b2 = W.heap.size + 1 → W1.cell? ⟨b1, 0, none⟩ = some (.pointer (some ⟨w.heap.size, 0, none⟩)) → W1.cell? ⟨b2, 0, none⟩ = some (.string (bk gone)) →
          Calls Tryz.prog 16 #[.func (.func 38) #[] #[.pointer (some ⟨b1, 0, none⟩), .pointer (some ⟨b2, 0, none⟩)], .slice (some ⟨W1.heap.size, 0, none⟩) 1 1, .int .i64 100] (W1.alloc (.cells #[.string (bk (tgD k))] 9)) fun e w' =>
            RepAt w' (fun k => w.heap.size ≤ k) w.heap.size (tgR k) ∧ Below w.heap.size w w' ∧ ClosAns (closR (withoutK (tgR k) gone) (univK (tgR k) [tgD k]) [tgD k] 100) (W1.alloc (.cells #[.string (bk (tgD k))] 9)) w' e) := Lib.hid (fun gone W W1 b1 b2 hb hR hb1 e1 e2 k1 k2 => by
        have hs := hb.size
        have hal : Below W1.heap.size W1 (W1.alloc (.cells #[.string (bk (tgD k))] 9)) := (Below.refl _ _).alloc (Nat.le_refl _) _
        have hbW1 : Below w.heap.size w W1 := hb.trans (hb1.mono hs)
        have hbA : Below w.heap.size w (W1.alloc (.cells #[.string (bk (tgD k))] 9)) := hbW1.trans (hal.mono hbW1.size)
        refine (clos_get HSO.out (B := w.heap.size) (b1 := b1) (b2 := b2) (HUN.out gone) ((hR.below hb1).below hal) (by rw [tgR_len]; have := HN.out; omega) (HEB.out _ hbA) HLT.out hbA.size (by omega) (by omega) ((hal.cell (block_lt k1)).trans k1) ((hal.cell (block_lt k2)).trans k2) HZ.out _ 1 1 [tgD k] 100 (StrsAt.one W1 (tgD k)) rfl (by decide) HRT.out (univ_roots _ _)).mono ?_
        rintro e w' ⟨hR', hc', ha⟩
        exact ⟨hR', hbA.trans (hc'.below hbA.size (fun k hk h => by omega)), ha⟩)
      have HPG := Lib.hid (tg_peel HN.out)
      obtain ⟨m, hm, hml⟩ := tg_clos HN.out
      have HMC := Lib.hid hm
      have HML := Lib.hid hml
      have HGN := Lib.hid (tg_gone HN.out)
      unfold fnV at HGT0 HGT1
      clear hm hml d1 d1' hlt
      have d1 : decide ((k : Int) < (k : Int)) = false := decide_eq_false (by omega)
      have d1' : decide (k < k) = false := decide_eq_false (by omega)
      go_wp2_with fail
      refine (HGT0.out wr).mono ?_
      rintro e w5 ⟨rfl, hb5, k51, k52⟩
      have HP5 := Lib.hid (HPL.out wr w5 wr.heap.size (wr.heap.size + 1) HB.out HR.out hb5 rfl rfl k51 k52)
      rw [HPG.out] at HP5
      clear hb5 k51 k52
      go_wp2_with fail
      refine HP5.out.mono ?_
      rintro e w6 ⟨hr6, hb6, rfl⟩
      have HR6 := Lib.hid hr6
      have HB6 := Lib.hid hb6
      clear hr6 hb6 HP5
      have hpv : ∃ (v1 : ByteArray) (v2 : Int) (v3 : Bool), peelV (if k ≤ 10 then some (cm_d, 1) else none) = .tuple #[.string v1, .int .i64 v2, .bool v3] ∧ ((k ≤ 10 ∧ v1 = bk cm_d ∧ v2 = 1 ∧ v3 = true) ∨ (¬ k ≤ 10 ∧ v1 = ⟨#[]⟩ ∧ v2 = 0 ∧ v3 = false)) := by
        by_cases h : k ≤ 10
        · exact ⟨bk cm_d, 1, true, by rw [if_pos h]; rfl, .inl ⟨h, rfl, rfl, rfl⟩⟩
        · exact ⟨⟨#[]⟩, 0, false, by rw [if_neg h]; rfl, .inr ⟨h, rfl, rfl, rfl⟩⟩
      obtain ⟨v1, v2, v3, hpe, hpc⟩ := hpv
      rw [hpe]
      have HPC := Lib.hid hpc
      clear hpe hpc
      go_wp2_with fail
      refine (HGT0.out w6).mono ?_
      rintro e w7 ⟨rfl, hb7, k71, k72⟩
      have HC7 := Lib.hid (HCL.out [] w6 w7 w6.heap.size (w6.heap.size + 1) HB6.out HR6.out hb7 rfl rfl k71 k72)
      rw [HMC.out] at HC7
      clear hb7 k71 k72
      go_wp2_with fail
      refine HC7.out.mono ?_
      rintro e w8 ⟨hr8, hb8, A8, rfl, _⟩
      have HR8 := Lib.hid hr8
      have HB8 := Lib.hid hb8
      clear hr8 hb8 HC7
      have hmi : (m.length : Int) = (k : Int) + 2 := by rw [HML.out]; omega
      generalize m.length = ml at *
      go_wp2_with fail
      refine (HGT1.out w8).mono ?_
      rintro e w9 ⟨rfl, hb9, k91, k92⟩
      have HC9 := Lib.hid (HCL.out et_d w8 w9 w8.heap.size (w8.heap.size + 1) HB8.out HR8.out hb9 rfl rfl k91 k92)
      rw [HGN.out] at HC9
      clear hb9 k91 k92
      go_wp2_with fail
      refine HC9.out.mono ?_
      rintro e w10 ⟨hr10, hb10, rfl⟩
      have HB10 := Lib.hid hb10
      have HAW := Lib.hid (awake_any HSO.out w10 (HEB.out _ hb10))
      clear hr10 hb10 HC9
      have hw2 : IntKind.i64.wrap ((k : Int) + 2) = (k : Int) + 2 := IntWalk.i64_in _ (by have := HN.out; omega)
      rcases HPC.out with ⟨h10, rfl, rfl, rfl⟩ | ⟨h10, rfl, rfl, rfl⟩
      · have d5 : decide ((k : Int) ≤ 10) = true := decide_eq_true (by omega)
        have d5' : decide (k ≤ 10) = true := decide_eq_true h10
        have d6 : decide ((10 : Int) < (k : Int)) = false := decide_eq_false (by omega)
        have d6' : decide (10 < k) = false := decide_eq_false (by omega)
        clear h10
        go_wp2_with fail
        refine HAW.out.mono ?_
        rintro e w11 ⟨rfl, hb11⟩
        have HB11 := Lib.hid (HB10.out.trans (hb11.mono HB10.out.size))
        clear hb11
        go_wp2
        go_ret
        exact ⟨rfl, HB11.out⟩
      · have d5 : decide ((k : Int) ≤ 10) = false := decide_eq_false (by omega)
        have d5' : decide (k ≤ 10) = false := decide_eq_false h10
        have d6 : decide ((10 : Int) < (k : Int)) = true := decide_eq_true (by omega)
        have d6' : decide (10 < k) = true := decide_eq_true (by omega)
        clear h10
        go_wp2_with fail
        refine HAW.out.mono ?_
        rintro e w11 ⟨rfl, hb11⟩
        have HB11 := Lib.hid (HB10.out.trans (hb11.mono HB10.out.size))
        clear hb11
        go_wp2
        go_ret
        exact ⟨rfl, HB11.out⟩
end Go.Proofs.YtihanglnjghcfaaGreatDoor
