/- Segments: what they are as bytes, what bytes are as a segment; in plain lists. -/
import Derived.Test.YtoeipgbnjcgbjaaSumStr
namespace Go.Proofs.Ytoeipgbnjcgbjaa
open Go.RowKit
set_option linter.unusedVariables false

structure Sg where
  t : Int
  id : Int
  seq : Int
  ack : Int
  data : List Int
def w32 (x : Int) : Int := x % 4294967296
def crcV (xs : List Int) : Int := 4294967295 - (crcTo 4294967295 xs : Nat)
def segB (s : Sg) : List Int := (s.t % 256) :: (be4 (w32 s.id) ++ (be4 (w32 s.seq) ++ (be4 (w32 s.ack) ++ ([((s.data.take 400).length : Int) / 256, ((s.data.take 400).length : Int) % 256] ++ s.data.take 400))))
def segL (s : Sg) : List Int := segB s ++ be4 (crcV (segB s))
theorem w32_ok (x : Int) : 0 ≤ w32 x ∧ w32 x < 4294967296 := by unfold w32; omega
theorem segB_len (s : Sg) : (segB s).length = 15 + (s.data.take 400).length := by simp [segB, be4]; omega
theorem segL_len (s : Sg) : (segL s).length = 19 + (s.data.take 400).length := by rw [segL, List.length_append, segB_len]; simp [be4]; omega
theorem segB_ok (s : Sg) (h : Bytes s.data) : Bytes (segB s) := by
  intro x hx
  have hl : (s.data.take 400).length ≤ 400 := List.length_take_le _ _
  have h1 := w32_ok s.id
  have h2 := w32_ok s.seq
  have h3 := w32_ok s.ack
  unfold segB at hx
  rcases List.mem_cons.1 hx with rfl | hx
  · omega
  rcases List.mem_append.1 hx with hx | hx
  · exact be4_ok _ h1.1 h1.2 x hx
  rcases List.mem_append.1 hx with hx | hx
  · exact be4_ok _ h2.1 h2.2 x hx
  rcases List.mem_append.1 hx with hx | hx
  · exact be4_ok _ h3.1 h3.2 x hx
  rcases List.mem_append.1 hx with hx | hx
  · rcases List.mem_cons.1 hx with rfl | hx
    · omega
    · rw [List.mem_singleton.1 hx]; omega
  · exact h x (List.mem_of_mem_take hx)
theorem crcV_ok (xs : List Int) (h : Bytes xs) : 0 ≤ crcV xs ∧ crcV xs < 4294967296 := by
  have := crcTo_lt 4294967295 xs (by decide) h
  unfold crcV; omega
theorem segL_ok (s : Sg) (h : Bytes s.data) : Bytes (segL s) := by
  have hb := segB_ok s h
  have hc := crcV_ok _ hb
  intro x hx
  rcases List.mem_append.1 hx with hx | hx
  · exact hb x hx
  · exact be4_ok _ hc.1 hc.2 x hx

def nat4 (bs : List Int) (i : Nat) : Int := bs.getD i 0 * 16777216 + bs.getD (i + 1) 0 * 65536 + bs.getD (i + 2) 0 * 256 + bs.getD (i + 3) 0
def parseB (bs : List Int) : Bool := decide (19 ≤ bs.length ∧ bs.length ≤ 419 ∧ bs.getD 13 0 * 256 + bs.getD 14 0 = (bs.length : Int) - 19 ∧ 1 ≤ bs.getD 0 0 ∧ bs.getD 0 0 ≤ 5 ∧ crcV (bs.take (bs.length - 4)) = nat4 bs (bs.length - 4))
def parseS (bs : List Int) : Sg := ⟨bs.getD 0 0, nat4 bs 1, nat4 bs 5, nat4 bs 9, (bs.drop 15).take (bs.length - 19)⟩
def goodSg (s : Sg) : Prop := 1 ≤ s.t ∧ s.t ≤ 5 ∧ (0 ≤ s.id ∧ s.id < 4294967296) ∧ (0 ≤ s.seq ∧ s.seq < 4294967296) ∧ (0 ≤ s.ack ∧ s.ack < 4294967296) ∧ s.data.length ≤ 400
theorem nat4_be4 (x : Int) (h : 0 ≤ x ∧ x < 4294967296) : x / 16777216 * 16777216 + x / 65536 % 256 * 65536 + x / 256 % 256 * 256 + x % 256 = x := by omega
theorem nat4_app (xs : List Int) (x : Int) (h : 0 ≤ x ∧ x < 4294967296) (n : Nat) (hn : xs.length = n) : nat4 (xs ++ be4 x) n = x := by
  subst hn
  have key : ∀ j, (xs ++ be4 x).getD (xs.length + j) 0 = (be4 x).getD j 0 := by
    intro j
    simp only [List.getD_eq_getElem?_getD]
    rw [List.getElem?_append_right (by omega), Nat.add_sub_cancel_left]
  unfold nat4
  rw [key 1, key 2, key 3, show (xs ++ be4 x).getD xs.length 0 = (be4 x).getD 0 0 from key 0]
  exact nat4_be4 x h
theorem parse_seg (s : Sg) (h : goodSg s) (hb : Bytes s.data) : parseB (segL s) = true ∧ parseS (segL s) = s := by
  obtain ⟨t, id, seq, ack, d⟩ := s
  obtain ⟨h1, h2, h3, h4, h5, h6⟩ := h
  simp only at h1 h2 h3 h4 h5 h6 hb
  have hB := segB_ok ⟨t, id, seq, ack, d⟩ hb
  have hc := crcV_ok _ hB
  have hl := segL_len ⟨t, id, seq, ack, d⟩
  have hlB := segB_len ⟨t, id, seq, ack, d⟩
  have ht : d.take 400 = d := List.take_of_length_le h6
  simp only [ht] at hl hlB
  have hx : ∀ y, 0 ≤ y ∧ y < 4294967296 → w32 y = y := fun y hy => by unfold w32; omega
  have hE : segB ⟨t, id, seq, ack, d⟩ = t :: (be4 id ++ (be4 seq ++ (be4 ack ++ ([(d.length : Int) / 256, (d.length : Int) % 256] ++ d)))) := by
    unfold segB
    simp only [ht]
    rw [hx id h3, hx seq h4, hx ack h5, show t % 256 = t by omega]
  have hS : segL ⟨t, id, seq, ack, d⟩ = (t :: (be4 id ++ (be4 seq ++ (be4 ack ++ [(d.length : Int) / 256, (d.length : Int) % 256])))) ++ (d ++ be4 (crcV (segB ⟨t, id, seq, ack, d⟩))) := by
    rw [segL, hE]; simp
  have g : ∀ i, i < 15 → (segL ⟨t, id, seq, ack, d⟩).getD i 0 = (t :: (be4 id ++ (be4 seq ++ (be4 ack ++ [(d.length : Int) / 256, (d.length : Int) % 256])))).getD i 0 := by
    intro i hi
    rw [hS]
    simp only [List.getD_eq_getElem?_getD]
    rw [List.getElem?_append_left (by simp [be4]; omega)]
  have hcrc : nat4 (segL ⟨t, id, seq, ack, d⟩) ((segL ⟨t, id, seq, ack, d⟩).length - 4) = crcV (segB ⟨t, id, seq, ack, d⟩) := by
    rw [hl, segL]
    exact nat4_app _ _ hc _ (by omega)
  have htk : (segL ⟨t, id, seq, ack, d⟩).take ((segL ⟨t, id, seq, ack, d⟩).length - 4) = segB ⟨t, id, seq, ack, d⟩ := by
    rw [hl, segL]
    rw [List.take_append_of_le_length (by omega), List.take_of_length_le (by omega)]
  constructor
  · unfold parseB
    rw [hcrc, htk, g 13 (by decide), g 14 (by decide), g 0 (by decide)]
    refine decide_eq_true ⟨by omega, by omega, ?_, h1, h2, rfl⟩
    show (d.length : Int) / 256 * 256 + (d.length : Int) % 256 = _
    omega
  · unfold parseS nat4
    simp only [g 0 (by decide), g 1 (by decide), g (1 + 1) (by decide), g (1 + 2) (by decide), g (1 + 3) (by decide), g 5 (by decide), g (5 + 1) (by decide), g (5 + 2) (by decide), g (5 + 3) (by decide), g 9 (by decide), g (9 + 1) (by decide), g (9 + 2) (by decide), g (9 + 3) (by decide)]
    have e1 := nat4_be4 id h3
    have e2 := nat4_be4 seq h4
    have e3 := nat4_be4 ack h5
    have hd : ((segL ⟨t, id, seq, ack, d⟩).drop 15).take ((segL ⟨t, id, seq, ack, d⟩).length - 19) = d := by
      rw [hl, hS, List.drop_append_of_le_length (by simp [be4])]
      rw [List.drop_of_length_le (by simp [be4]), List.nil_append, List.take_append_of_le_length (by omega), List.take_of_length_le (by omega)]
    rw [hd]
    simp only [be4, List.getD_cons_zero, List.getD_cons_succ, List.cons_append, List.nil_append]
    rw [e1, e2, e3]
end Go.Proofs.Ytoeipgbnjcgbjaa
