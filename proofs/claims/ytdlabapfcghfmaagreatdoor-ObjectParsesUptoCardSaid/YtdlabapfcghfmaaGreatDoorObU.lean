/- object.ID. -/
import Derived.Test.YtdlabapfcghfmaaGreatDoorObS
namespace Go.Proofs.YtdlabapfcghfmaaGreatDoor
open Go.RowKit
set_option linter.unusedVariables false
set_option linter.unusedSimpArgs false

/-- An object's ID, as a text. -/
def oidS (k : Int) (xs : List Int) : ByteArray := strOfNums (hexL (shaAll (headL k xs.length ++ xs)))
set_option maxRecDepth 100000 in
set_option maxHeartbeats 4000000 in
theorem oid_any (k : Int) (A : Option Addr) (n c : Nat) (xs : List Int) (w : World) (hE : EnvO w) (hI : Ints .u8 w A xs) (hn : xs.length = n) (hb : Bytes xs) (hsz : n ≤ 70368744170000) :
    Calls Tryz.prog 8 #[.int .i64 k, .slice A n c] w fun e w' => e = .returned (.string (oidS k xs)) ∧ Below w.heap.size w w' := by
  have hhl : (headL k n).length ≤ n + 10 := by
    unfold headL
    simp only [List.length_append, List.length_cons, List.length_nil]
    have := nameL_len k
    have := digL_len n
    omega
  have HHL := Lib.hid hhl
  have HHB := Lib.hid (headL_ok k n)
  have HH := Lib.hid (fun w hE => head_any k n w hE (by omega))
  have HRES : Hid (oidS k xs = strOfNums (hexL (shaAll (headL k n ++ xs)))) := Lib.hid (by rw [← hn]; rfl)
  have HI := Lib.hid hI
  have HN := Lib.hid hn
  have HX := Lib.hid hb
  have HE := Lib.hid hE
  generalize oidS k xs = RES at *
  generalize headL k n = HL at *
  clear hI hn hb hE hhl
  go_enter Tryz.func8, Tryz.ntmps8
  go_wp2_with fail
  refine (new_sha w).mono ?_
  rintro e w1 ⟨rfl, hs1, hb1⟩
  have HS1 := Lib.hid hs1
  have HB1 := Lib.hid hb1
  clear hs1 hb1
  go_wp2_with fail
  refine (HH.out w1 (HE.out.below HB1.out)).mono ?_
  rintro e w2 ⟨A2, c2, rfl, hI2, hb2⟩
  have HS2 := Lib.hid (HS1.out.below hb2)
  have HB2 := Lib.hid (HB1.out.trans (hb2.mono HB1.out.size))
  have HI2 := Lib.hid hI2
  clear hI2 hb2
  go_wp2_with fail
  refine (put_sha [] w.heap.size _ A2 HL.length c2 HL w2 HS2.out HI2.out rfl (fun x hx => by cases hx) HHB.out (by have := HHL.out; simp; omega)).mono ?_
  rintro e w3 ⟨rfl, v3, hs3, hc3, hv3⟩
  rw [List.nil_append] at hs3
  have HS3 := Lib.hid hs3
  have HB3 : Hid (Below w.heap.size w w3) := Lib.hid (HB2.out.trans (hc3.below (B := w.heap.size) HB2.out.size (fun j hj hh => by rcases hh with rfl | hh; exact Nat.lt_irrefl _ hj; cases hh)))
  have HV3 : Hid (∀ k, v3.ownBlock = some k → w.heap.size ≤ k) := Lib.hid (fun k hk => by
    rcases hv3 with h | h
    · rw [hk] at h; cases h
    · exact Nat.le_trans HB2.out.size (h k hk))
  clear hs3 hc3 hv3
  go_wp2_with fail
  refine (put_sha HL w.heap.size v3 A n c xs w3 HS3.out (HI.out.below HB3.out) HN.out HHB.out HX.out (by have := HHL.out; omega)).mono ?_
  rintro e w4 ⟨rfl, v4, hs4, hc4, hv4⟩
  have HS4 := Lib.hid hs4
  have HC4 := Lib.hid hc4
  clear hs4 hc4 hv4
  go_wp2_with fail
  refine (tell_sha (HL ++ xs) w.heap.size v4 w4 HS4.out (fun x hx => by
    rcases List.mem_append.1 hx with h | h
    · exact HHB.out x h
    · exact HX.out x h) (by have := HHL.out; have := HN.out; rw [List.length_append]; omega)).mono ?_
  rintro e w5 ⟨A5, c5, rfl, ho5, hb5⟩
  have HB4 : Hid (Below w.heap.size w w4) := Lib.hid (HB3.out.trans (HC4.out.below (B := w.heap.size) HB3.out.size (fun j hj hh => by
    rcases hh with rfl | hh
    · exact Nat.lt_irrefl _ hj
    · exact absurd (HV3.out j hh) (by omega))))
  have HB5 := Lib.hid (HB4.out.trans (hb5.mono HB4.out.size))
  have hI5 := ho5.ints
  clear hb5 ho5
  go_wp2_with fail
  refine (hex_any A5 _ c5 (shaAll (HL ++ xs)) w5 hI5 rfl (oid_sha_bytes _) (by rw [oid_sha_len]; decide)).mono ?_
  rintro e w6 ⟨rfl, hb6⟩
  have HB6 := Lib.hid (HB5.out.trans (hb6.mono HB5.out.size))
  clear hb6
  go_wp2
  go_ret
  exact ⟨by rw [HRES.out]; rfl, HB6.out⟩
end Go.Proofs.YtdlabapfcghfmaaGreatDoor
