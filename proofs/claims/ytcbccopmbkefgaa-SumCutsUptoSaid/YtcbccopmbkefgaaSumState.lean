/- A sum of any kind, by the bytes that were written to it: New, Write and Sum, each shown once; the document's Sum. -/
import Derived.Test.YtcbccopmbkefgaaSumAwake
namespace Go.Proofs.Ytcbccopmbkefgaa
open Go.RowKit
set_option linter.unusedVariables false

/-- A sum of a kind at block g, behind the bytes xs. -/
def SumSt (kind : Int) (xs : List Int) (g : Nat) (w : World) (v : Value) : Prop :=
  (kind = 1 ∧ SumRep g w v 1 (fb (xs.length / 64) h0 xs) (xs.drop (64 * (xs.length / 64))) (xs.length : Int) (tabOf 1) 4294967295 1 0) ∨
  (kind = 2 ∧ SumRep g w v 2 h0 [] 0 (tabOf 2) (crcTo 4294967295 xs : Nat) 1 0) ∨
  (kind = 3 ∧ SumRep g w v 3 h0 [] 0 (tabOf 3) 4294967295 (adTo (1, 0) xs).1 (adTo (1, 0) xs).2)
def sumOut (kind : Int) (xs : List Int) : List Int := if kind = 1 then shaAll xs else if kind = 2 then crcOut xs else adOut xs

theorem SumSt.chg {kind : Int} {xs : List Int} {g : Nat} {w w' : World} {v : Value} {S : Nat → Prop} (h : SumSt kind xs g w v) (hc : Chg S w w') (h1 : ¬ S g) (h2 : ∀ k, v.ownBlock = some k → ¬ S k) : SumSt kind xs g w' v := by
  rcases h with ⟨rfl, h⟩ | ⟨rfl, h⟩ | ⟨rfl, h⟩
  · exact .inl ⟨rfl, h.chg hc h1 h2⟩
  · exact .inr (.inl ⟨rfl, h.chg hc h1 h2⟩)
  · exact .inr (.inr ⟨rfl, h.chg hc h1 h2⟩)
theorem SumSt.below {kind : Int} {xs : List Int} {g : Nat} {w w' : World} {v : Value} (h : SumSt kind xs g w v) (hb : Below w.heap.size w w') : SumSt kind xs g w' v :=
  h.chg (S := fun _ => False) (Chg.of_below hb) (fun h => h) (fun _ _ h => h)
theorem SumSt.drew {kind : Int} {xs : List Int} {g : Nat} {w : World} {v : Value} (h : SumSt kind xs g w v) : SumSt kind xs g w.drew v := h.below (((Below.refl _ _).drew))
theorem SumSt.far {kind : Int} {xs : List Int} {g : Nat} {w : World} {v : Value} (h : SumSt kind xs g w v) : v.ownBlock ≠ some g := by
  rcases h with ⟨rfl, h⟩ | ⟨rfl, h⟩ | ⟨rfl, h⟩ <;> exact h.far
theorem SumSt.blk {kind : Int} {xs : List Int} {g : Nat} {w : World} {v : Value} (h : SumSt kind xs g w v) : g < w.heap.size := by
  rcases h with ⟨rfl, h⟩ | ⟨rfl, h⟩ | ⟨rfl, h⟩ <;> exact h.cel.blk
theorem SumSt.lt {kind : Int} {xs : List Int} {g : Nat} {w : World} {v : Value} (h : SumSt kind xs g w v) : ∀ k, v.ownBlock = some k → k < w.heap.size := by
  rcases h with ⟨rfl, h⟩ | ⟨rfl, h⟩ | ⟨rfl, h⟩ <;> exact fun k hk => (h.own.lt k hk).2

theorem new_st (kind : Int) (w : World) (h1 : 1 ≤ kind) (h3 : kind ≤ 3) : Calls Try.prog 33 #[.int .i64 kind] w fun e w' => e = .returned (.tuple #[.pointer (some ⟨w.heap.size, 0, none⟩), .int .i64 0]) ∧ SumSt kind [] w.heap.size w' (.slice none 0 0) ∧ Below w.heap.size w w' := by
  refine (new_ok kind w h1 h3).mono ?_
  rintro e w1 ⟨rfl, hs, hb⟩
  refine ⟨rfl, ?_, hb⟩
  obtain rfl | rfl | rfl : kind = 1 ∨ kind = 2 ∨ kind = 3 := by omega
  · exact .inl ⟨rfl, hs⟩
  · exact .inr (.inl ⟨rfl, hs⟩)
  · exact .inr (.inr ⟨rfl, hs⟩)

theorem fb_more (xs ys : List Int) : fb (((xs.drop (64 * (xs.length / 64))) ++ ys).length / 64) (fb (xs.length / 64) h0 xs) ((xs.drop (64 * (xs.length / 64))) ++ ys) = fb ((xs ++ ys).length / 64) h0 (xs ++ ys) := by
  have e1 : ((xs.drop (64 * (xs.length / 64))) ++ ys).length / 64 + xs.length / 64 = (xs ++ ys).length / 64 := by
    simp only [List.length_append, List.length_drop]; omega
  rw [← e1, Nat.add_comm, fb_add, fb_app (xs.length / 64) h0 xs ys (by omega), List.drop_append_of_le_length (by omega)]
theorem drop_more (xs ys : List Int) : ((xs.drop (64 * (xs.length / 64))) ++ ys).drop (64 * (((xs.drop (64 * (xs.length / 64))) ++ ys).length / 64)) = (xs ++ ys).drop (64 * ((xs ++ ys).length / 64)) := by
  have e1 : ((xs.drop (64 * (xs.length / 64))) ++ ys).length / 64 + xs.length / 64 = (xs ++ ys).length / 64 := by
    simp only [List.length_append, List.length_drop]; omega
  rw [← e1, ← List.drop_append_of_le_length (by omega : 64 * (xs.length / 64) ≤ xs.length), List.drop_drop]
  congr 1
  omega

/-- What a Write leaves. -/
def WriteSt (kind : Int) (xs : List Int) (g : Nat) (w : World) (v : Value) (e : Ending) (w' : World) : Prop :=
  e = .returned (.tuple #[]) ∧ ∃ v', SumSt kind xs g w' v' ∧ Chg (fun k => k = g ∨ v.ownBlock = some k) w w' ∧ (v'.ownBlock = v.ownBlock ∨ ∀ k, v'.ownBlock = some k → w.heap.size ≤ k)
theorem write_st (kind : Int) (xs : List Int) (g : Nat) (v : Value) (A : Option Addr) (n c : Nat) (ys : List Int) (w : World) (hs : SumSt kind xs g w v) (hI : Ints .u8 w A ys) (hn : ys.length = n) (hx : Bytes xs) (hy : Bytes ys) (hsz : xs.length + n ≤ 1000000000) :
    Calls Try.prog 34 #[.pointer (some ⟨g, 0, none⟩), .slice A n c] w (WriteSt kind (xs ++ ys) g w v) := by
  rcases hs with ⟨rfl, hs⟩ | ⟨rfl, hs⟩ | ⟨rfl, hs⟩
  · refine (write_sha g v _ _ _ _ _ _ _ A n c ys w hs hI hn hy (fun x hm => hx x (List.mem_of_mem_drop hm)) (fb_ok _ _ _ h0_ok) (by omega) (by omega) (by rw [List.length_drop]; omega)).mono ?_
    rintro e w1 ⟨rfl, v', h1, h2, h3⟩
    rw [fb_more, drop_more] at h1
    refine ⟨rfl, v', .inl ⟨rfl, ?_⟩, h2, h3⟩
    have e2 : ((xs ++ ys).length : Int) = (xs.length : Int) + n := by rw [List.length_append]; omega
    rw [e2]; exact h1
  · have e : tabOf 2 = (fun i => ((crcTab i : Nat) : Int)) := by funext i; exact if_pos rfl
    rw [e] at hs
    refine (write_crc g v h0 [] 0 (crcTo 4294967295 xs) 1 0 A n c ys w hs hI hn hy (crcTo_lt _ _ (by decide) hx) (by omega)).mono ?_
    rintro e' w1 ⟨rfl, v', h1, h2, h3⟩
    refine ⟨rfl, v', .inr (.inl ⟨rfl, ?_⟩), h2, h3⟩
    rw [e]
    have e3 : crcTo 4294967295 (xs ++ ys) = crcTo (crcTo 4294967295 xs) ys := by unfold crcTo; rw [List.foldl_append]
    rw [e3]; exact h1
  · refine (write_adler g v h0 [] 0 _ _ (adTo (1, 0) xs) A n c ys w hs hI hn hy (adTo_ok _ _ ⟨by decide, by decide, by decide, by decide⟩) (by omega)).mono ?_
    rintro e' w1 ⟨rfl, v', h1, h2, h3⟩
    refine ⟨rfl, v', .inr (.inr ⟨rfl, ?_⟩), h2, h3⟩
    have e3 : adTo (1, 0) (xs ++ ys) = adTo (adTo (1, 0) xs) ys := by unfold adTo; rw [List.foldl_append]
    rw [e3]; exact h1
theorem ask_st (kind : Int) (xs : List Int) (g : Nat) (v : Value) (w : World) (hs : SumSt kind xs g w v) (hx : Bytes xs) (hsz : xs.length ≤ 1000000000) :
    Calls Try.prog 35 #[.pointer (some ⟨g, 0, none⟩)] w (AskPost w (sumOut kind xs)) := by
  rcases hs with ⟨rfl, hs⟩ | ⟨rfl, hs⟩ | ⟨rfl, hs⟩
  · have e : sumOut 1 xs = shaOut (fb (xs.length / 64) h0 xs) (xs.drop (64 * (xs.length / 64))) (xs.length : Int) := by
      show shaAll xs = _; unfold shaAll; rw [Int.zero_add]
    rw [e]
    exact ask_sha g v _ _ _ _ _ _ _ w hs (fb_ok _ _ _ h0_ok) (fun x hm => hx x (List.mem_of_mem_drop hm)) (by omega) (by omega) (by rw [List.length_drop]; omega)
  · have hlt := crcTo_lt 4294967295 xs (by decide) hx
    exact ask_crc g v h0 [] 0 _ _ _ _ w hs (by omega) (by omega)
  · exact ask_adler g v h0 [] 0 _ _ (adTo (1, 0) xs) w hs (adTo_ok _ _ ⟨by decide, by decide, by decide, by decide⟩)
theorem sumOut_bytes (kind : Int) (xs : List Int) (hx : Bytes xs) : Bytes (sumOut kind xs) := by
  unfold sumOut
  split
  · exact shaAll_bytes xs
  · split
    · exact (crcOut_num xs hx).1
    · exact (adOut_num xs).1

theorem word1 (x : Int) : wordsL [x] = be4 x := by simp [wordsL]
set_option maxRecDepth 100000 in
theorem refSum_any (kind : Int) (s : ByteArray) (w : World) (h1 : 1 ≤ kind) (h3 : kind ≤ 3) (hsz : s.size ≤ 1000000000) :
    Calls Try.prog 36 #[.int .i64 kind, .string s] w (AskPost w (sumOut kind (bytesOf s))) := by
  obtain rfl | rfl | rfl : kind = 1 ∨ kind = 2 ∨ kind = 3 := by omega
  · go_enter Try.func36, Try.ntmps36
    go_wp2_with fail
    refine (refSha_any s w (by omega)).mono ?_
    have hl := bytesOf_len s
    rw [← hl, ← shaAll_eq]
    rintro e w1 ⟨A1, c1, rfl, ho, hb⟩
    go_wp2
    go_ret
    exact ⟨A1, c1, rfl, ho, hb⟩
  · have hx := bytesOf_ok s
    have hlt := crcTo_lt 4294967295 (bytesOf s) (by decide) hx
    have hW : Words [4294967295 - (crcTo 4294967295 (bytesOf s) : Nat)] := fun x hm => by rw [List.mem_singleton.1 hm]; omega
    go_enter Try.func36, Try.ntmps36
    go_wp2_with fail
    refine (refCrc_any s w (by omega)).mono ?_
    rw [← crcTo_bits]
    rintro e w1 ⟨rfl, rfl⟩
    go_wp2_with fail
    refine (words_any _ 1 1 _ _ (Ints.of_new (heap_alloc_new _ _) rfl) rfl hW (by omega)).mono ?_
    rw [word1]
    rintro e w2 ⟨A1, c1, rfl, ho, hb⟩
    go_wp2
    go_ret
    exact ⟨A1, c1, rfl, ho.base_ (by simp), ((Below.refl _ _).alloc (Nat.le_refl _) _).trans (hb.mono (by simp))⟩
  · have hok := adTo_ok (1, 0) (bytesOf s) ⟨by decide, by decide, by decide, by decide⟩
    obtain ⟨a1, a2, a3, a4⟩ := hok
    have hW : Words [(adTo (1, 0) (bytesOf s)).2 * 65536 + (adTo (1, 0) (bytesOf s)).1] := fun x hm => by rw [List.mem_singleton.1 hm]; omega
    go_enter Try.func36, Try.ntmps36
    go_wp2_with fail
    refine (refAdler_any s w (by omega)).mono ?_
    rintro e w1 ⟨rfl, rfl⟩
    go_wp2_with fail
    refine (words_any _ 1 1 _ _ (Ints.of_new (heap_alloc_new _ _) rfl) rfl hW (by omega)).mono ?_
    rw [word1]
    rintro e w2 ⟨A1, c1, rfl, ho, hb⟩
    go_wp2
    go_ret
    exact ⟨A1, c1, rfl, ho.base_ (by simp), ((Below.refl _ _).alloc (Nat.le_refl _) _).trans (hb.mono (by simp))⟩
end Go.Proofs.Ytcbccopmbkefgaa
