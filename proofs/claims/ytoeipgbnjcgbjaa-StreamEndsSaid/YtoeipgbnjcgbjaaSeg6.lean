/- Parse of package stream: one contract; the document's Parse. -/
import Derived.Test.YtoeipgbnjcgbjaaSeg5
import Derived.Test.YtoeipgbnjcgbjaaSeg2
import Derived.StillTailTactics
namespace Go.Proofs.Ytoeipgbnjcgbjaa
open Go.RowKit
set_option linter.unusedVariables false

theorem parse_no (A : Option Addr) (n c : Nat) (bs : List Int) (w : World) (hI : Ints .u8 w A bs) (hn : bs.length = n) (hb : Bytes bs) (hc : n ≤ c) (hcm : c ≤ 9223372036854775807) (hsz : n ≤ 140737488355000) (h : parseB bs = false) :
    Calls Try.prog 15 #[.slice A n c] w (ParseNo w) := by
  have h := of_decide_eq_false h
  by_cases h1 : n < 19 ∨ 419 < n
  · exact parse_long A n c w h1 hsz
  · obtain ⟨N, hN⟩ : ∃ N, n = N + 19 := ⟨n - 19, by omega⟩
    by_cases h2 : bs.getD 13 0 * 256 + bs.getD 14 0 = N ∧ 1 ≤ bs.getD 0 0 ∧ bs.getD 0 0 ≤ 5
    · refine parse_tail A n c N bs w hI hn hN (by omega) hb hc hcm h2.1 h2.2.1 h2.2.2 (fun h3 => h ⟨by omega, by omega, by omega, h2.2.1, h2.2.2, ?_⟩)
      rw [show bs.length - 4 = 15 + N by omega]
      exact h3
    · exact parse_head A n c N bs w hI hn hN (by omega) hb hc hcm (by omega)
theorem parse_yes (A : Option Addr) (n c : Nat) (bs : List Int) (w : World) (hI : Ints .u8 w A bs) (hn : bs.length = n) (hb : Bytes bs) (hc : n ≤ c) (hcm : c ≤ 9223372036854775807) (h : parseB bs = true) :
    Calls Try.prog 15 #[.slice A n c] w (ParseYes w bs) := by
  obtain ⟨h1, h2, h3, h4, h5, h6⟩ := of_decide_eq_true h
  obtain ⟨N, hN⟩ : ∃ N, n = N + 19 := ⟨n - 19, by omega⟩
  refine parse_good A n c N bs w hI hn hN (by omega) hb hc hcm (by omega) h4 h5 ?_
  rw [show bs.length - 4 = 15 + N by omega] at h6
  exact h6

/-- What the document's Parse leaves of bytes that are a segment. -/
def ParseYesR (w : World) (bs : List Int) (e : Ending) (w' : World) : Prop :=
  ∃ A c, e = .returned (.tuple #[segV (parseS bs) A c, .bool true]) ∧ OwnS w' w.heap.size 5 1 (.slice A (parseS bs).data.length c) (parseS bs).data.length ((parseS bs).data.map (Value.int .u8)) ∧ Below w.heap.size w w'
theorem getL_two (a b : Int) : getL [a, b] = 256 * a + b := by simp [getL]
theorem getL_four (xs : List Int) (k : Nat) (h : k + 4 ≤ xs.length) : getL ((xs.drop k).take 4) = nat4 xs k := by
  have e : (xs.drop k).take 4 = [xs.getD k 0, xs.getD (k + 1) 0, xs.getD (k + 2) 0, xs.getD (k + 3) 0] := by
    apply List.ext_getElem?
    intro i
    rw [List.getElem?_take]
    rcases i with _ | _ | _ | _ | i
    · simp [List.getElem?_eq_getElem (show k < xs.length by omega), List.getD_eq_getElem?_getD]
    · simp [List.getElem?_eq_getElem (show k + 1 < xs.length by omega), List.getD_eq_getElem?_getD]
    · simp [List.getElem?_eq_getElem (show k + 2 < xs.length by omega), List.getD_eq_getElem?_getD]
    · simp [List.getElem?_eq_getElem (show k + 3 < xs.length by omega), List.getD_eq_getElem?_getD]
    · simp
      omega
  rw [e]
  simp only [getL, List.foldl, nat4]
  omega

theorem bytesOf_take (s : ByteArray) (k : Nat) : bytesOf (s.extract 0 k) = (bytesOf s).take k := by
  unfold bytesOf
  rw [← List.map_take]
  congr 1
  simp [ByteArray.extract, ByteArray.copySlice]
/-- The document's Parse behind its first statement: the bytes lie in a block of their own. -/
structure RPre (s : ByteArray) (w wb : World) (A : Option Addr) (cap : Nat) : Prop where
  cel : Cel wb w.heap.size 24 5 (fun i => zeroVs.getD i undef)
  bel : Below w.heap.size w wb
  ints : Ints .u8 wb A (bytesOf s)
  cap1 : s.size ≤ cap
  cap2 : cap ≤ 9223372036854775807
  far : ∀ b o, A = some ⟨b, o, none⟩ → w.heap.size < b
theorem rpre (s : ByteArray) (w : World) (hsz : s.size ≤ 140737488351300) :
    RPre s w ((w.alloc (.cells #[.int .i64 0, .int .i64 0, .int .i64 0, .int .i64 0, .slice none 0 0] 24)).alloc (.cells (bytesRow s (grownCap (w.alloc (.cells #[.int .i64 0, .int .i64 0, .int .i64 0, .int .i64 0, .slice none 0 0] 24)) s.size 0 5)) 5 ((bytesRow s (grownCap (w.alloc (.cells #[.int .i64 0, .int .i64 0, .int .i64 0, .int .i64 0, .slice none 0 0] 24)) s.size 0 5)).size, (bytesRow s (grownCap (w.alloc (.cells #[.int .i64 0, .int .i64 0, .int .i64 0, .int .i64 0, .slice none 0 0] 24)) s.size 0 5)).size + 1)))
      (some ⟨w.heap.size + 1, 0, none⟩) (grownCap (w.alloc (.cells #[.int .i64 0, .int .i64 0, .int .i64 0, .int .i64 0, .slice none 0 0] 24)) s.size 0 5) := by
  have hC := cel_zero w
  have hB : Below w.heap.size w (w.alloc (.cells #[.int .i64 0, .int .i64 0, .int .i64 0, .int .i64 0, .slice none 0 0] 24)) := (Below.refl _ _).alloc (Nat.le_refl _) _
  have hs : (w.alloc (.cells #[.int .i64 0, .int .i64 0, .int .i64 0, .int .i64 0, .slice none 0 0] 24)).heap.size = w.heap.size + 1 := by simp
  generalize w.alloc (.cells #[.int .i64 0, .int .i64 0, .int .i64 0, .int .i64 0, .slice none 0 0] 24) = wa at *
  have hge := grownCap_ge wa s.size 0 5
  have hcm : grownCap wa s.size 0 5 ≤ maxLen := grownCap_le_maxLen wa s.size 0 5 (by unfold maxLen; omega)
  have ho := OwnS.of_str wa s 5 _ hge hcm
  rw [hs] at ho
  refine ⟨hC.alloc _, hB.alloc (by omega) _, ?_, hge, by unfold maxLen at hcm; omega, fun b o hA => by injection hA with h; injection h with h1; omega⟩
  exact ho.ints
theorem RPre.drew {s : ByteArray} {w wb : World} {A : Option Addr} {cap : Nat} (h : RPre s w wb A cap) : RPre s w wb.drew A cap := ⟨h.cel.drew, h.bel.drew, h.ints.drew, h.cap1, h.cap2, h.far⟩
set_option maxRecDepth 100000 in
set_option maxHeartbeats 4000000 in
theorem refParse_no (s : ByteArray) (w : World) (hsz : s.size ≤ 140737488351300) (h : parseB (bytesOf s) = false) :
    Calls Try.prog 16 #[.string s] w (ParseNo w) := by
  have hcv := fun W => run_bytes_of_string (P := Try.prog) W 9 22 5 s Try.underlying9 Try.underlying22 Try.underlying5
  have hpre := rpre s w hsz
  go_enter Try.func16, Try.ntmps16
  go_upto_region 1 with (fail)
  go_cut [4] (fun v4 wx => ∃ A cap, v4 = .slice A s.size cap ∧ RPre s w wx A cap)
  case first =>
    go_wp2
    go_meet
    exact ⟨_, _, rfl, hpre.drew⟩
  case rest =>
    clear hpre hcv
    obtain ⟨A, cap, rfl, hC, hB, hI, hc1, hc2, hfar⟩ := hcut
    have h := of_decide_eq_false h
    have hbl := bytesOf_len s
    have hb := bytesOf_ok s
    have hcs : ∀ wx : World, Cel wx w.heap.size 24 5 (fun i => zeroVs.getD i undef) → True := fun _ _ => trivial
    by_cases h1 : s.size < 19 ∨ 419 < s.size
    · have ways : decide ((s.size : Int) < 19) = true ∨ (decide ((s.size : Int) < 19) = false ∧ decide ((419 : Int) < s.size) = true) := by
        by_cases a : s.size < 19
        · exact .inl (by simp; omega)
        · exact .inr ⟨by simp; omega, by simp; omega⟩
      rcases ways with d | ⟨d, d2⟩
      all_goals
        go_wp2_with (refine wpList_store_part (vs := zeroVs) (off := 0) rfl (.tmp 2) (.tmp 39) rfl rfl rfl hC info_seg (by decide) (by simp [zeroVs, Value.oneCell']) ?_; intro w2 hC2 hg2 hs2; have hC3 := cel_stored rfl hC2)
        exact bodyPost_ret (v := .tuple #[zeroSeg, .bool false]) (results_cel2 rfl _ _ rfl rfl hC3 Try.underlying24 rfl info_seg (by decide) (fun j hj => getD_some hj)) rfl ⟨rfl, hB.grown hg2 hB.size (fun k h => by injection h with h; omega)⟩
    · obtain ⟨N, hN⟩ : ∃ N, s.size = N + 19 := ⟨s.size - 19, by omega⟩
      generalize hbs : bytesOf s = bs at *
      have HBS := Lib.hid hbs
      obtain ⟨b, o, rfl, hlt, hcell⟩ := hI (by omega)
      have c0 := hcell 0 (by omega)
      rw [Nat.add_zero] at c0
      have x0 := hb.at_ 0 (by omega)
      have x13 := hb.at_ 13 (by omega)
      have x14 := hb.at_ 14 (by omega)
      have hI13 : Ints .u8 wc (some ⟨b, o + 13, none⟩) [bs.getD 13 0, bs.getD 14 0] := by
        have h13 := (hI.drop 13).take 2
        have e : (bs.drop 13).take 2 = [bs.getD 13 0, bs.getD 14 0] := by
          apply List.ext_getElem?
          intro i
          rw [List.getElem?_take]
          rcases i with _ | _ | i
          · simp [List.getElem?_eq_getElem (show 13 < bs.length by omega), List.getD_eq_getElem?_getD]
          · simp [List.getElem?_eq_getElem (show 14 < bs.length by omega), List.getD_eq_getElem?_getD]
          · simp; omega
        rwa [e] at h13
      have hb13 : Bytes [bs.getD 13 0, bs.getD 14 0] := fun x hx => by
        rcases List.mem_cons.1 hx with rfl | hx
        · exact x13
        · rw [List.mem_singleton.1 hx]; exact x14
      have hG : Calls Try.prog 51 #[.slice (some ⟨b, o + 13, none⟩) 2 (cap - 13)] wc fun e w' => e = .returned (.int .u64 (256 * bs.getD 13 0 + bs.getD 14 0)) ∧ wc = w' := by
        have := get_any (some ⟨b, o + 13, none⟩) 2 (cap - 13) _ wc hI13 rfl (by omega) hb13
        rwa [getL_two] at this
      obtain ⟨K, hK⟩ : ∃ K, K = N + 15 := ⟨_, rfl⟩
      have hG2 : ∀ wx : World, wx.heap = wc.heap → Calls Try.prog 51 #[.slice (some ⟨b, o + K, none⟩) (s.size - K) (cap - K)] wx fun e w' => e = .returned (.int .u64 (nat4 bs K)) ∧ wx = w' := by
        intro wx hx
        have hl : (bs.drop K).length = s.size - K := by rw [List.length_drop, hbl]
        have := get_any (some ⟨b, o + K, none⟩) (s.size - K) (cap - K) (bs.drop K) wx ((hI.drop K).heap hx) hl (by omega) (hb.drop K)
        rwa [← List.take_of_length_le (show (bs.drop K).length ≤ 4 by omega), getL_four bs K (by omega)] at this
      have hCr : ∀ wx : World, Calls Try.prog 52 #[.string (s.extract 0 K)] wx fun e w' => e = .returned (.int .u32 (crcV (bs.take K))) ∧ wx = w' := by
        intro wx
        have hz : (s.extract 0 K).size ≤ 140737488355328 := by
          have := bytesOf_len (s.extract 0 K)
          rw [bytesOf_take, List.length_take] at this
          have := bytesOf_len s
          omega
        have := refCrc_any (s.extract 0 K) wx hz
        rwa [bytesOf_take, hbs, ← crcTo_bits] at this
      have hn4 := nat4_ok bs K hb (by omega)
      have hcv := crcV_ok (bs.take K) (hb.take K)
      have H13 : bs.getD 13 0 * 256 + bs.getD 14 0 = 256 * bs.getD 13 0 + bs.getD 14 0 := by omega
      have hw0 : IntKind.i64.wrap (256 * bs.getD 13 0 + bs.getD 14 0) = 256 * bs.getD 13 0 + bs.getD 14 0 := IntWalk.i64_in _ (by omega)
      have l13 : (13 : Int) ≤ 15 := by omega
      have l15 : (15 : Int) ≤ s.size := by omega
      have lc15 : (15 : Int) ≤ cap := by omega
      have lc13 : ¬ cap = 13 := by omega
      have ln0 : 0 < s.size := by omega
      have ln1 : ¬ s.size = 0 := by omega
      have d19 : decide ((s.size : Int) < 19) = false := by simp; omega
      have d419 : decide ((419 : Int) < s.size) = false := by simp; omega
      have ways : decide (bs.getD 0 0 < 1) = true ∨ (decide (bs.getD 0 0 < 1) = false ∧ decide (5 < bs.getD 0 0) = true) ∨ (decide (bs.getD 0 0 < 1) = false ∧ decide (5 < bs.getD 0 0) = false ∧ (256 * bs.getD 13 0 + bs.getD 14 0 != (s.size : Int) - 19) = true) ∨ (decide (bs.getD 0 0 < 1) = false ∧ decide (5 < bs.getD 0 0) = false ∧ (256 * bs.getD 13 0 + bs.getD 14 0 != (s.size : Int) - 19) = false ∧ (nat4 bs K != crcV (bs.take K)) = true) := by
        by_cases a : bs.getD 0 0 < 1
        · exact .inl (by simpa using a)
        · by_cases b' : 5 < bs.getD 0 0
          · exact .inr (.inl ⟨by simpa using a, by simpa using b'⟩)
          · by_cases c' : 256 * bs.getD 13 0 + bs.getD 14 0 = (s.size : Int) - 19
            · refine .inr (.inr (.inr ⟨by simpa using a, by simpa using b', by simpa using c', ?_⟩))
              simp only [bne_iff_ne, ne_eq]
              intro h5
              exact h ⟨by omega, by omega, by omega, by omega, by omega, by rw [show bs.length - 4 = K by omega]; exact h5.symm⟩
            · exact .inr (.inr (.inl ⟨by simpa using a, by simpa using b', by simpa using c'⟩))
      have hk5 : (s.size : Int) - 4 = (K : Int) := by omega
      have lk1 : (K : Int) ≤ s.size := by omega
      have lk2 : (K : Int) ≤ cap := by omega
      have lk3 : ¬ cap = K := by omega
      have lk4 : K ≤ s.size := by omega
      have hcw : IntKind.u64.wrap (crcV (bs.take K)) = crcV (bs.take K) := by rw [IntKind.wrap_u64]; omega
      have HN := Lib.hid hN
      have HBL := Lib.hid hbl
      have HK := Lib.hid hK
      have HG2 := Lib.hid hG2
      have HCR := Lib.hid hCr
      clear hN hbl hK hcell hbs hI13 hb13 x13 x14 H13 h h1 hcs hG2 hCr
      generalize nat4 bs K = n4 at *
      generalize crcV (bs.take K) = cv at *
      generalize 256 * bs.getD 13 0 + bs.getD 14 0 = l2 at *
      generalize bs.getD 0 0 = b0 at *
      rcases ways with d | ⟨d, d2⟩ | ⟨d, d2, d3⟩ | ⟨d, d2, d3, d4⟩
      all_goals
        go_wp2_with (first
          | (refine wpList_store_part (vs := zeroVs) (off := 0) rfl (.tmp 2) (.tmp 39) rfl rfl rfl hC info_seg (by decide) (by simp [zeroVs, Value.oneCell']) ?_; intro w2 hC2 hg2 hs2; have hC3 := cel_stored rfl hC2)
          | (go_at_call 51; refine hG.mono ?_; rintro e w' ⟨rfl, rfl⟩))
      iterate 3
        · exact bodyPost_ret (v := .tuple #[zeroSeg, .bool false]) (results_cel2 rfl _ _ rfl rfl hC3 Try.underlying24 rfl info_seg (by decide) (fun j hj => getD_some hj)) rfl ⟨rfl, hB.grown hg2 hB.size (fun k h => by injection h with h; omega)⟩
      go_quiet ((first | (go_at_call 51; exact quiet_same (HG2.out _ rfl)) | (go_at_call 52; exact quiet_same (HCR.out _))))
      go_wp2_with (refine wpList_store_part (vs := zeroVs) (off := 0) rfl (.tmp 2) (.tmp 53) rfl rfl rfl (hC.drewN nq) info_seg (by decide) (by simp [zeroVs, Value.oneCell']) ?_; intro w2 hC2 hg2 hs2; have hC3 := cel_stored rfl hC2)
      exact bodyPost_ret (v := .tuple #[zeroSeg, .bool false]) (results_cel2 rfl _ _ rfl rfl hC3 Try.underlying24 rfl info_seg (by decide) (fun j hj => getD_some hj)) rfl ⟨rfl, (Below.drewN hB nq).grown hg2 hB.size (fun k h => by injection h with h; omega)⟩
end Go.Proofs.Ytoeipgbnjcgbjaa
