/- (*sum.Sum).Sum, by the kinds of sums: a CRC's and an Adler's. -/
import Derived.Test.YtdlabapfcghfmaaGreatDoorSumWriteC
namespace Go.Proofs.YtdlabapfcghfmaaGreatDoor
open Go.RowKit
set_option linter.unusedVariables false

def AskPost (w : World) (out : List Int) (e : Ending) (w' : World) : Prop :=
  ∃ A c, e = .returned (.slice A out.length c) ∧ OwnS w' w.heap.size 5 1 (.slice A out.length c) out.length (out.map (Value.int .u8)) ∧ Below w.heap.size w w'

theorem u32_not (x : Int) (h0 : 0 ≤ x) (h1 : x < 4294967296) : bits .xor .u32 IntKind.u32.max x = 4294967295 - x := by
  obtain ⟨n, rfl⟩ := Int.eq_ofNat_of_zero_le h0
  have hn : n < 4294967296 := by omega
  rw [show IntKind.u32.max = ((4294967295 : Nat) : Int) by decide, u32_xor_nat _ _ (by omega) hn]
  have : (4294967295 ^^^ n) = 4294967295 - n := by
    apply Nat.eq_of_testBit_eq
    intro i
    rw [show 4294967295 - n = 2 ^ 32 - (n + 1) by omega, Nat.testBit_two_pow_sub_succ (by omega), show 4294967295 = 2 ^ 32 - 1 by rfl, Nat.testBit_xor, Nat.testBit_two_pow_sub_one]
    by_cases hi : i < 32
    · simp [hi]
    · have : n.testBit i = false := Nat.testBit_lt_two_pow (Nat.lt_of_lt_of_le hn (show 2 ^ 32 ≤ 2 ^ i from Nat.pow_le_pow_right (by decide) (Nat.le_of_not_lt hi)))
      simp [hi, this]
  omega

theorem OwnS.empty {w : World} {base : Nat} {e : TypeId} {cs : Array Value} {g c : Nat} (hb : base ≤ g) (h : w.heap[g]? = some (.cells cs e)) (hc : c ≤ maxLen) (hs : c ≤ cs.size) : OwnS w base e 1 (.slice (some ⟨g, 0, none⟩) 0 c) 0 [] :=
  ⟨rfl, .inr ⟨g, 0, c, cs, rfl, hb, ⟨_, h, .inl (Nat.le_refl _)⟩, Nat.zero_le _, hc, by omega, by simp⟩⟩

theorem make_bytes (c : Nat) (hc : c ≤ 281474976710656) (w : World) : (Instr.makeSlice 24 (.int .i64 0) (.int .i64 (c : Int))).run Tryz.prog w = .ok (.slice (some ⟨w.heap.size, 0, none⟩) 0 c) (w.alloc (.cells (madeCells #[.int .u8 0] c) 5)) := by
  obtain ⟨i0, hi, hz0, hz1, hz2⟩ := info_parts Tryz.info_u8
  have hr := run_make (P := Tryz.prog) w 24 5 i0 (.int .u8 0) Tryz.underlying24 hi hz0 .i64 .i64 0 c (Int.le_refl _) (by omega) (by rw [hz2]; omega) (by omega)
  simp only [Int.toNat_zero, Int.toNat_natCast, hz1, Nat.mul_one] at hr
  exact hr

set_option maxRecDepth 100000 in
set_option maxHeartbeats 4000000 in
theorem ask_crc (g : Nat) (v : Value) (h : H5) (rest : List Int) (len : Int) (tab : Nat → Int) (crc : Int) (a b : Int) (w : World)
    (hs : SumRep g w v 2 h rest len tab crc a b) (hc0 : 0 ≤ crc) (hc1 : crc < 4294967296) :
    Calls Tryz.prog 29 #[.pointer (some ⟨g, 0, none⟩)] w (AskPost w (be4 (4294967295 - crc))) := by
  have k0 := hs.c0
  have k264 := hs.c264
  go_enter Tryz.func29, Tryz.ntmps29
  go_wp2
  have hne := World.new_ne w ⟨g, 264, none⟩ k264
  have hmk : ∀ w : World, (Instr.makeSlice 24 (.int .i64 0) (.int .i64 4)).run Tryz.prog w = .ok (.slice (some ⟨w.heap.size, 0, none⟩) 0 4) (w.alloc (.cells (madeCells #[.int .u8 0] 4) 5)) := make_bytes 4 (by omega)
  have hN : bits BinOp.xor IntKind.u32 (if IntKind.u32.signed = true then -1 else IntKind.u32.max) crc = 4294967295 - crc := u32_not crc hc0 hc1
  have q0 : 0 ≤ 4294967295 - crc := by omega
  have q1 : 4294967295 - crc < 4294967296 := by omega
  have q2 : 0 ≤ 140737488355000 := by omega
  go_region_held3 (fun w' => w'.cell? ⟨g, 264, none⟩ = some (.int .u32 crc)) (first | exact hk5 | go_keep) ((go_at_call 55; refine (four_any _ 0 [] w.heap.size (4294967295 - crc) _ ?_ q0 q1 q2 ?_).mono ?_; (exact (OwnS.empty (Nat.le_refl _) (heap_alloc_new w _) (by decide) (by simp [madeCells])).drew); (simp); rintro e w5 ⟨A5, c5, rfl, ho5, hg5, hv5⟩; have hk5 := (((hs.cel.alloc (.cells (madeCells #[.int .u8 0] 4) 5)).drew).grown hg5 (fun h => by injection h with h; exact absurd (h : w.heap.size = g) (Nat.ne_of_gt hs.cel.blk))).cell 264 (by decide)))
  go_wp2
  go_ret
  exact ⟨A5, c5, rfl, ho5, ((((Below.refl _ _).alloc (Nat.le_refl _) _).drew).grown hg5 (by simp) (fun k h => by injection h with h; exact Nat.le_of_eq h))⟩

theorem u32_join (a b : Int) (ha : 0 ≤ a ∧ a < 65536) (hb : 0 ≤ b ∧ b < 65536) : bits .or .u32 (b * 65536) a = b * 65536 + a := by
  obtain ⟨n, rfl⟩ := Int.eq_ofNat_of_zero_le ha.1
  obtain ⟨m, rfl⟩ := Int.eq_ofNat_of_zero_le hb.1
  rw [show (m : Int) * 65536 = ((2 ^ 16 * m : Nat) : Int) by omega, u32_or_nat _ _ (by omega) (by omega), ← Nat.two_pow_add_eq_or_of_lt (by omega : n < 2 ^ 16)]
  omega

set_option maxRecDepth 100000 in
set_option maxHeartbeats 4000000 in
theorem ask_adler (g : Nat) (v : Value) (h : H5) (rest : List Int) (len : Int) (tab : Nat → Int) (crc : Int) (s : Int × Int) (w : World)
    (hs : SumRep g w v 3 h rest len tab crc s.1 s.2) (hok : AdOk s) :
    Calls Tryz.prog 29 #[.pointer (some ⟨g, 0, none⟩)] w (AskPost w (be4 (s.2 * 65536 + s.1))) := by
  obtain ⟨a, b⟩ := s
  obtain ⟨ha, ha', hb, hb'⟩ := hok
  simp only at ha ha' hb hb' hs ⊢
  have k0 := hs.c0
  have k265 := hs.c265
  have k266 := hs.c266
  go_enter Tryz.func29, Tryz.ntmps29
  go_wp2
  have hne := World.new_ne w ⟨g, 265, none⟩ k265
  have hne2 := World.new_ne w ⟨g, 266, none⟩ k266
  have hmk : ∀ w : World, (Instr.makeSlice 24 (.int .i64 0) (.int .i64 4)).run Tryz.prog w = .ok (.slice (some ⟨w.heap.size, 0, none⟩) 0 4) (w.alloc (.cells (madeCells #[.int .u8 0] 4) 5)) := make_bytes 4 (by omega)
  have hN : bits BinOp.or IntKind.u32 (IntKind.u32.wrap (b * 65536)) a = b * 65536 + a := by rw [IntKind.wrap_u32', Int.emod_eq_of_lt (by omega) (by omega)]; exact u32_join a b ⟨ha, by omega⟩ ⟨hb, by omega⟩
  have q0 : 0 ≤ b * 65536 + a := by omega
  have q1 : b * 65536 + a < 4294967296 := by omega
  have q2 : 0 ≤ 140737488355000 := by omega
  go_region_held3 (fun w' => w'.cell? ⟨g, 265, none⟩ = some (.int .u32 a) ∧ w'.cell? ⟨g, 266, none⟩ = some (.int .u32 b)) (first | exact ⟨hk5, hk6⟩ | go_keep) ((go_at_call 55; refine (four_any _ 0 [] w.heap.size (b * 65536 + a) _ ?_ q0 q1 q2 ?_).mono ?_; (exact (OwnS.empty (Nat.le_refl _) (heap_alloc_new w _) (by decide) (by simp [madeCells])).drew); (simp); rintro e w5 ⟨A5, c5, rfl, ho5, hg5, hv5⟩; have hc5 := (((hs.cel.alloc (.cells (madeCells #[.int .u8 0] 4) 5)).drew).grown hg5 (fun h => by injection h with h; exact absurd (h : w.heap.size = g) (Nat.ne_of_gt hs.cel.blk))); have hk5 := hc5.cell 265 (by decide); have hk6 := hc5.cell 266 (by decide)))
  go_wp2
  go_ret
  exact ⟨A5, c5, rfl, ho5, ((((Below.refl _ _).alloc (Nat.le_refl _) _).drew).grown hg5 (by simp) (fun k h => by injection h with h; exact Nat.le_of_eq h))⟩
end Go.Proofs.YtdlabapfcghfmaaGreatDoor
