/- (*sum.Sum).Write of a CRC and of an Adler. -/
import Derived.Test.YtdlabapfcghfmaaGreatDoorSumWriteS
namespace Go.Proofs.YtdlabapfcghfmaaGreatDoor
open Go.RowKit
set_option linter.unusedVariables false

def crcStep (c x : Nat) : Nat := (c / 256) ^^^ crcTab ((c % 256) ^^^ x)
def crcTo (c : Nat) (xs : List Int) : Nat := xs.foldl (fun c x => crcStep c x.toNat) c
theorem crcStep_lt (c x : Nat) (h : c < 4294967296) (hx : x < 256) : crcStep c x < 4294967296 := by
  unfold crcStep
  have h1 : (c % 256) ^^^ x < 256 := Nat.xor_lt_two_pow (n := 8) (by omega) (by omega)
  exact Nat.xor_lt_two_pow (n := 32) (by omega) (crcN_lt 8 _ (by omega))
theorem crcTo_snoc (c : Nat) (xs : List Int) (x : Int) : crcTo c (xs ++ [x]) = crcStep (crcTo c xs) x.toNat := by unfold crcTo; rw [List.foldl_append]; rfl
theorem crcTo_lt (c : Nat) (xs : List Int) (hc : c < 4294967296) (hx : Bytes xs) : crcTo c xs < 4294967296 := by
  unfold crcTo
  induction xs generalizing c with
  | nil => exact hc
  | cons x xs ih =>
    have := hx x (by simp)
    exact ih _ (crcStep_lt _ _ hc (by omega)) (fun y hy => hx y (by simp [hy]))
theorem Bytes.take {xs : List Int} (h : Bytes xs) (k : Nat) : Bytes (xs.take k) := fun x hx => h x (List.mem_of_mem_take hx)
theorem Bytes.at_ {xs : List Int} (h : Bytes xs) (k : Nat) (hk : k < xs.length) : 0 ≤ xs.getD k 0 ∧ xs.getD k 0 < 256 := by
  rw [List.getD_eq_getElem?_getD, List.getElem?_eq_getElem hk]; exact h _ (List.getElem_mem hk)

set_option maxRecDepth 100000 in
set_option maxHeartbeats 4000000 in
theorem write_crc (g : Nat) (v : Value) (h : H5) (rest : List Int) (len : Int) (crc : Nat) (a b : Int) (A : Option Addr) (n c : Nat) (xs : List Int) (w : World)
    (hs : SumRep g w v 2 h rest len (fun i => (crcTab i : Nat)) crc a b) (hI : Ints .u8 w A xs) (hn : xs.length = n) (hb : Bytes xs) (hc : crc < 4294967296) (hsz : n ≤ 140737488355000) :
    Calls Tryz.prog 26 #[.pointer (some ⟨g, 0, none⟩), .slice A n c] w (WritePost g w v 2 h rest len (fun i => (crcTab i : Nat)) (crcTo crc xs : Nat) a b) := by
  subst hn
  have k0 := hs.c0
  go_enter Tryz.func26, Tryz.ntmps26
  go_wp2
  go_loopw [63] (fun i wr => ∃ k : Nat, k ≤ xs.length ∧ i = .int .i64 k ∧ SumRep g wr v 2 h rest len (fun i => (crcTab i : Nat)) (crcTo crc (xs.take k) : Nat) a b ∧ Chg (fun k => k = g) w wr) (fun i _ => xs.length - (intOf i).toNat)
  case atStart => exact ⟨0, by omega, rfl, by simpa [crcTo] using hs, Chg.refl _ _⟩
  case round =>
    obtain ⟨k, hk, rfl, hsr, hch⟩ := hrel
    by_cases hlt : k < xs.length
    · have hfar := hs.ints_far hI (by omega)
      obtain ⟨bb, o, rfl, hbl, hcell⟩ := (hI.chg hch (fun b o hA => by rintro rfl; exact hfar o hA)) (by omega)
      have hck := hcell k hlt
      have hxb := hb.at_ k hlt
      have hts := take_snoc_getD xs k hlt
      have HN : Hid (crcTo crc (xs.take (k + 1)) = crcStep (crcTo crc (xs.take k)) (xs.getD k 0).toNat) := by show _ = _; rw [hts, crcTo_snoc]
      have hcl := crcTo_lt crc (xs.take k) hc (hb.take k)
      clear hcell hts hs hI hfar k0
      generalize crcTo crc (xs.take k) = cc at *
      generalize xs.getD k 0 = x at *
      obtain ⟨xn, rfl⟩ := Int.eq_ofNat_of_zero_le hxb.1
      rw [Int.toNat_natCast] at HN
      have hxn : xn < 256 := by omega
      have hj : (cc % 256) ^^^ xn < 256 := Nat.xor_lt_two_pow (n := 8) (by omega) (by omega)
      have hx8 : bits .xor .u8 ((cc : Int) % 256) (xn : Int) = (((cc % 256) ^^^ xn : Nat) : Int) := by
        rw [show ((cc : Int) % 256) = ((cc % 256 : Nat) : Int) by omega]
        exact u8_xor_nat _ _ (by omega) hxn
      have k264 := hsr.c264
      have f264 := hsr.cel.frozen 264
      have HS : Hid (crcStep cc xn = (cc / 256) ^^^ crcTab ((cc % 256) ^^^ xn)) := rfl
      generalize (cc % 256) ^^^ xn = j at *
      have k8 := hsr.c8 (i := j) hj
      have hji : (j : Int) < 256 := by omega
      have htl : crcTab j < 4294967296 := crcN_lt 8 j (by omega)
      generalize crcTab j = tj at *
      have hx32 : bits .xor .u32 ((cc : Int) / 256) (tj : Int) = (((cc / 256) ^^^ tj : Nat) : Int) := by
        rw [show ((cc : Int) / 256) = ((cc / 256 : Nat) : Int) by omega]
        exact u32_xor_nat _ _ (by omega) htl
      clear hxb
      go_wp2
      go_region
      go_wp2
      go_roundw
      case rel => exact ⟨k + 1, by omega, by go_num, by rw [HN.out, HS.out]; exact (hsr.setCrc _).drew, (hch.setCell (.inl rfl) _).drew⟩
      case measure => simp [intOf]; omega
    · go_wp2
      go_end0
      obtain rfl : k = xs.length := by omega
      rw [List.take_length] at hsr
      exact ⟨rfl, v, hsr, hch.mono (fun _ _ h => .inl h), .inl rfl⟩

def adStep (s : Int × Int) (x : Int) : Int × Int := ((s.1 + x) % 65521, (s.2 + (s.1 + x) % 65521) % 65521)
def adTo (s : Int × Int) (xs : List Int) : Int × Int := xs.foldl adStep s
theorem adTo_snoc (s : Int × Int) (xs : List Int) (x : Int) : adTo s (xs ++ [x]) = adStep (adTo s xs) x := by unfold adTo; rw [List.foldl_append]; rfl
def AdOk (s : Int × Int) : Prop := 0 ≤ s.1 ∧ s.1 < 65521 ∧ 0 ≤ s.2 ∧ s.2 < 65521
theorem adTo_ok (s : Int × Int) (xs : List Int) (h : AdOk s) : AdOk (adTo s xs) := by
  unfold adTo
  induction xs generalizing s with
  | nil => exact h
  | cons x xs ih => exact ih _ ⟨Int.emod_nonneg _ (by decide), Int.emod_lt_of_pos _ (by decide), Int.emod_nonneg _ (by decide), Int.emod_lt_of_pos _ (by decide)⟩

set_option maxRecDepth 100000 in
set_option maxHeartbeats 4000000 in
theorem write_adler (g : Nat) (v : Value) (h : H5) (rest : List Int) (len : Int) (tab : Nat → Int) (crc : Int) (s : Int × Int) (A : Option Addr) (n c : Nat) (xs : List Int) (w : World)
    (hs : SumRep g w v 3 h rest len tab crc s.1 s.2) (hI : Ints .u8 w A xs) (hn : xs.length = n) (hb : Bytes xs) (hc : AdOk s) (hsz : n ≤ 140737488355000) :
    Calls Tryz.prog 26 #[.pointer (some ⟨g, 0, none⟩), .slice A n c] w (WritePost g w v 3 h rest len tab crc (adTo s xs).1 (adTo s xs).2) := by
  subst hn
  have k0 := hs.c0
  go_enter Tryz.func26, Tryz.ntmps26
  go_wp2
  go_loopw [93] (fun i wr => ∃ k : Nat, k ≤ xs.length ∧ i = .int .i64 k ∧ SumRep g wr v 3 h rest len tab crc (adTo s (xs.take k)).1 (adTo s (xs.take k)).2 ∧ Chg (fun k => k = g) w wr) (fun i _ => xs.length - (intOf i).toNat)
  case atStart => exact ⟨0, by omega, rfl, by simpa [adTo] using hs, Chg.refl _ _⟩
  case round =>
    obtain ⟨k, hk, rfl, hsr, hch⟩ := hrel
    by_cases hlt : k < xs.length
    · have hfar := hs.ints_far hI (by omega)
      obtain ⟨bb, o, rfl, hbl, hcell⟩ := (hI.chg hch (fun b o hA => by rintro rfl; exact hfar o hA)) (by omega)
      have hck := hcell k hlt
      have hxb := hb.at_ k hlt
      have hts := take_snoc_getD xs k hlt
      have HN : Hid (adTo s (xs.take (k + 1)) = adStep (adTo s (xs.take k)) (xs.getD k 0)) := by show _ = _; rw [hts, adTo_snoc]
      have hcl := adTo_ok s (xs.take k) hc
      clear hcell hts hs hI hfar k0
      generalize adTo s (xs.take k) = t at *
      obtain ⟨ta, tb⟩ := t
      obtain ⟨c1, c2, c3, c4⟩ := hcl
      simp only at c1 c2 c3 c4 hsr
      generalize xs.getD k 0 = x at *
      have k265 := hsr.c265
      have f265 := hsr.cel.frozen 265
      have k266 := hsr.c266
      have f266 := hsr.cel.frozen 266
      have HA : Hid (adStep (ta, tb) x = ((ta + x) % 65521, (tb + (ta + x) % 65521) % 65521)) := rfl
      have hm : 0 ≤ (ta + x) % 65521 ∧ (ta + x) % 65521 < 65521 := ⟨Int.emod_nonneg _ (by decide), Int.emod_lt_of_pos _ (by decide)⟩
      have hm2 : 0 ≤ (tb + (ta + x) % 65521) % 65521 ∧ (tb + (ta + x) % 65521) % 65521 < 65521 := ⟨Int.emod_nonneg _ (by decide), Int.emod_lt_of_pos _ (by decide)⟩
      go_wp2
      have hs1 := hsr.setA ((ta + x) % 65521)
      have hch1 := hch.setCell (a := ⟨g, 265, none⟩) (.inl rfl) (.int .u32 ((ta + x) % 65521))
      generalize wr.setCell ⟨g, 265, none⟩ (.int .u32 ((ta + x) % 65521)) = w1 at *
      have q265 := hs1.c265
      have r265 := hs1.cel.frozen 265
      have q266 := hs1.c266
      have r266 := hs1.cel.frozen 266
      go_region
      go_wp2
      go_roundw
      case rel => exact ⟨k + 1, by omega, by go_num, by rw [HN.out, HA.out, show (tb + (ta + x) % 65521) % 65521 = (tb + (ta + x)) % 65521 by omega]; exact (hs1.setB _).drew, (hch1.setCell (.inl rfl) _).drew⟩
      case measure => simp [intOf]; omega
    · go_wp2
      go_end0
      obtain rfl : k = xs.length := by omega
      rw [List.take_length] at hsr
      exact ⟨rfl, v, hsr, hch.mono (fun _ _ h => .inl h), .inl rfl⟩
end Go.Proofs.YtdlabapfcghfmaaGreatDoor
