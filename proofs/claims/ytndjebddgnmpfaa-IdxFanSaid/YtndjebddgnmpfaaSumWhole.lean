/- whole: the sum of some bytes at once. -/
import Derived.Test.YtndjebddgnmpfaaSumAskS
namespace Go.Proofs.Ytndjebddgnmpfaa
open Go.RowKit
set_option linter.unusedVariables false

def adOut (xs : List Int) : List Int := be4 ((adTo (1, 0) xs).2 * 65536 + (adTo (1, 0) xs).1)
def crcOut (xs : List Int) : List Int := be4 (4294967295 - (crcTo 4294967295 xs : Nat))
theorem AskPost.below {w w1 : World} {out : List Int} {e : Ending} {w' : World} (hb : Below w.heap.size w w1) (h : AskPost w1 out e w') : AskPost w out e w' := by
  obtain ⟨A, c, h1, h2, h3⟩ := h
  exact ⟨A, c, h1, h2.base_ hb.size, hb.trans (h3.mono hb.size)⟩

set_option maxRecDepth 100000 in
set_option maxHeartbeats 2000000 in
theorem whole_adler (A : Option Addr) (n c : Nat) (xs : List Int) (w : World) (hI : Ints .u8 w A xs) (hn : xs.length = n) (hb : Bytes xs) (hsz : n ≤ 140737488355000) :
    Calls Try.prog 48 #[.int .i64 3, .slice A n c] w (AskPost w (adOut xs)) := by
  go_enter Try.func48, Try.ntmps48
  go_wp2_with fail
  refine (begun_any 3 w (by decide)).mono ?_
  rintro e w1 ⟨rfl, hs1, hb1⟩
  go_wp2_with fail
  refine (write_adler w.heap.size _ h0 [] 0 _ _ (1, 0) A n c xs w1 hs1 (hI.below hb1) hn hb ⟨by decide, by decide, by decide, by decide⟩ hsz).mono ?_
  rintro e w2 ⟨rfl, v2, hs2, hch2, hv2⟩
  go_wp2_with fail
  refine (ask_adler w.heap.size v2 h0 [] 0 _ _ (adTo (1, 0) xs) w2 hs2 (adTo_ok _ _ ⟨by decide, by decide, by decide, by decide⟩)).mono ?_
  rintro e w3 h3
  have h4 := AskPost.below (hb1.trans (hch2.below hb1.size (fun k hk hh => by rcases hh with rfl | hh; exact Nat.lt_irrefl _ hk; cases hh))) h3
  obtain ⟨A3, c3, rfl, ho3, hb3⟩ := h4
  go_wp2
  go_ret
  exact ⟨A3, c3, rfl, ho3, hb3⟩

set_option maxRecDepth 100000 in
set_option maxHeartbeats 2000000 in
theorem whole_crc (A : Option Addr) (n c : Nat) (xs : List Int) (w : World) (hI : Ints .u8 w A xs) (hn : xs.length = n) (hb : Bytes xs) (hsz : n ≤ 140737488355000) :
    Calls Try.prog 48 #[.int .i64 2, .slice A n c] w (AskPost w (crcOut xs)) := by
  have hlt := crcTo_lt 4294967295 xs (by decide) hb
  go_enter Try.func48, Try.ntmps48
  go_wp2_with fail
  refine (begun_crc w).mono ?_
  rintro e w1 ⟨rfl, hs1, hb1⟩
  go_wp2_with fail
  refine (write_crc w.heap.size _ h0 [] 0 4294967295 _ _ A n c xs w1 hs1 (hI.below hb1) hn hb (by decide) hsz).mono ?_
  rintro e w2 ⟨rfl, v2, hs2, hch2, hv2⟩
  go_wp2_with fail
  refine (ask_crc w.heap.size v2 h0 [] 0 _ _ _ _ w2 hs2 (by omega) (by omega)).mono ?_
  rintro e w3 h3
  have h4 := AskPost.below (hb1.trans (hch2.below hb1.size (fun k hk hh => by rcases hh with rfl | hh; exact Nat.lt_irrefl _ hk; cases hh))) h3
  obtain ⟨A3, c3, rfl, ho3, hb3⟩ := h4
  go_wp2
  go_ret
  exact ⟨A3, c3, rfl, ho3, hb3⟩

def shaAll (xs : List Int) : List Int := shaOut (fb (xs.length / 64) h0 xs) (xs.drop (64 * (xs.length / 64))) (0 + (xs.length : Int))
theorem h0_ok : h0.ok := by unfold H5.ok Word32 h0; decide
set_option maxRecDepth 100000 in
set_option maxHeartbeats 2000000 in
theorem whole_sha (A : Option Addr) (n c : Nat) (xs : List Int) (w : World) (hI : Ints .u8 w A xs) (hn : xs.length = n) (hb : Bytes xs) (hsz : n ≤ 140737488351300) :
    Calls Try.prog 48 #[.int .i64 1, .slice A n c] w (AskPost w (shaAll xs)) := by
  subst hn
  have hok := fb_ok (xs.length / 64) h0 xs h0_ok
  go_enter Try.func48, Try.ntmps48
  go_wp2_with fail
  refine (begun_any 1 w (by decide)).mono ?_
  rintro e w1 ⟨rfl, hs1, hb1⟩
  go_wp2_with fail
  refine (write_sha w.heap.size _ h0 [] 0 _ _ _ _ A xs.length c xs w1 hs1 (hI.below hb1) rfl hb (fun x hx => by cases hx) h0_ok (by decide) (by decide) (by simp; omega)).mono ?_
  rintro e w2 ⟨rfl, v2, hs2, hch2, hv2⟩
  rw [List.nil_append] at hs2
  go_wp2_with fail
  refine (ask_sha w.heap.size v2 _ _ _ _ _ _ _ w2 hs2 hok (fun x hx => hb x (List.mem_of_mem_drop hx)) (by omega) (by omega) (by rw [List.length_drop]; omega)).mono ?_
  rintro e w3 h3
  have h4 := AskPost.below (hb1.trans (hch2.below hb1.size (fun k hk hh => by rcases hh with rfl | hh; exact Nat.lt_irrefl _ hk; cases hh))) h3
  obtain ⟨A3, c3, rfl, ho3, hb3⟩ := h4
  go_wp2
  go_ret
  exact ⟨A3, c3, rfl, ho3, hb3⟩
end Go.Proofs.Ytndjebddgnmpfaa
