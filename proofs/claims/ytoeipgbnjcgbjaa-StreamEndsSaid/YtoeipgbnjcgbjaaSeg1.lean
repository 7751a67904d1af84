/- Walk: Segment of package stream. -/
import Derived.Test.YtoeipgbnjcgbjaaStrA
import Derived.Deep.RegionHeld3
namespace Go.Proofs.Ytoeipgbnjcgbjaa
open Go.RowKit
set_option linter.unusedVariables false

theorem sfour_ints (A : Option Addr) (c k k' : Nat) (xs : List Int) (base : Nat) (n : Int) (w : World) (hk' : k' = k + 4) (hown : OwnS w base 5 1 (.slice A k c) k (xs.map (Value.int .u8))) (h0 : 0 ≤ n) (h1 : n < 4294967296) (hk : k ≤ 140737488355000) (hb : base ≤ w.heap.size) :
    Calls Try.prog 53 #[.slice A k c, .int .u32 n] w fun e w' => ∃ A' c', e = .returned (.slice A' k' c') ∧ OwnS w' base 5 1 (.slice A' k' c') k' ((xs ++ be4 n).map (Value.int .u8)) ∧ w.grownBy w' (Value.slice A k c).ownBlock := by
  subst hk'
  refine (sfour_any _ k (xs.map (Value.int .u8)) base n w hown h0 h1 hk hb).mono ?_
  rintro e w' ⟨A', c', h2, h3, h4, h5⟩
  refine ⟨A', c', h2, ?_, h4⟩
  rw [List.map_append]
  exact h3
theorem Ints.take {k : IntKind} {w : World} {A : Option Addr} {xs : List Int} (h : Ints k w A xs) (n : Nat) : Ints k w A (xs.take n) := by
  intro hl
  rw [List.length_take] at hl
  obtain ⟨b, o, hA, hlt, hc⟩ := h (by omega)
  refine ⟨b, o, hA, hlt, fun j hj => ?_⟩
  rw [List.length_take] at hj
  rw [hc j (by omega)]
  simp [List.getD_eq_getElem?_getD, show j < n by omega]

theorem OwnS.capLe {w : World} {base : Nat} {e : TypeId} {A : Option Addr} {size n c : Nat} {xs : List Value} (h : OwnS w base e size (.slice A n c) n xs) : n ≤ c ∧ c ≤ 9223372036854775807 := by
  rcases h.2 with ⟨hv, rfl⟩ | ⟨g', off, cap, cur, hv, _, _, hn, hm, _⟩
  · injection hv with _ _ hc; omega
  · injection hv with _ _ hc; unfold maxLen at hm; omega
theorem Src.new2 {P : Program} {w : World} {u v : Value} {t : TypeId} (h1 : u.oneCell' = true) (h2 : v.oneCell' = true) : Src P (w.alloc (.cells #[u, v] t)) 1 (.slice (some ⟨w.heap.size, 0, none⟩) 2 2) 2 [u, v] :=
  Src.new (us := [u, v]) rfl (by simp [h1, h2])

/-- A segment as a value. -/
def segV (s : Sg) (A : Option Addr) (c : Nat) : Value := .agg #[.int .i64 s.t, .int .i64 s.id, .int .i64 s.seq, .int .i64 s.ack, .slice A s.data.length c]
/-- What Segment leaves: its bytes in new memory. -/
def SegPost (w : World) (s : Sg) (e : Ending) (w' : World) : Prop :=
  ∃ A, e = .returned (.slice A (segL s).length (segL s).length) ∧ OwnS w' w.heap.size 5 1 (.slice A (segL s).length (segL s).length) (segL s).length ((segL s).map (Value.int .u8)) ∧ Below w.heap.size w w'

set_option maxRecDepth 100000 in
set_option maxHeartbeats 8000000 in
theorem segment_any (s : Sg) (A : Option Addr) (c : Nat) (w : World) (hI : Ints .u8 w A s.data) (hb : Bytes s.data) (hc : s.data.length ≤ c) (hsz : c ≤ 9223372036854775807) :
    Calls Try.prog 17 #[segV s A c] w (SegPost w s) := by
  obtain ⟨i0, hi, hz0, hz1, hz2⟩ := info_parts Try.info_u8
  obtain ⟨t, id, seq, ack, data⟩ := s
  simp only [segV] at hI hb hc ⊢
  obtain ⟨m, hm⟩ : ∃ m, m = min data.length 400 := ⟨_, rfl⟩
  have hmc : (m : Int) ≤ c := by omega
  have hm400 : m ≤ 400 := by omega
  have hdl : (data.take 400).length = m := by rw [List.length_take]; omega
  have hId := hI.take 400
  have hbd : Bytes (data.take 400) := hb.take 400
  have hbA := hb
  have k0 : (w.alloc (.cells #[.int .i64 t, .int .i64 id, .int .i64 seq, .int .i64 ack, .slice A data.length c] 24)).cell? ⟨w.heap.size, 0, none⟩ = some (.int .i64 t) := cell_of_row _ _ 0 _ _ (0, 0) (heap_alloc_new w _)
  have k1 : (w.alloc (.cells #[.int .i64 t, .int .i64 id, .int .i64 seq, .int .i64 ack, .slice A data.length c] 24)).cell? ⟨w.heap.size, 1, none⟩ = some (.int .i64 id) := cell_of_row _ _ 1 _ _ (0, 0) (heap_alloc_new w _)
  have k2 : (w.alloc (.cells #[.int .i64 t, .int .i64 id, .int .i64 seq, .int .i64 ack, .slice A data.length c] 24)).cell? ⟨w.heap.size, 2, none⟩ = some (.int .i64 seq) := cell_of_row _ _ 2 _ _ (0, 0) (heap_alloc_new w _)
  have k3 : (w.alloc (.cells #[.int .i64 t, .int .i64 id, .int .i64 seq, .int .i64 ack, .slice A data.length c] 24)).cell? ⟨w.heap.size, 3, none⟩ = some (.int .i64 ack) := cell_of_row _ _ 3 _ _ (0, 0) (heap_alloc_new w _)
  have hbel0 : Below w.heap.size w (w.alloc (.cells #[.int .i64 t, .int .i64 id, .int .i64 seq, .int .i64 ack, .slice A data.length c] 24)) := (Below.refl _ _).alloc (Nat.le_refl _) _
  have hmin : (min (data.length : Int) 400) = m := by omega
  have HM := Lib.hid hm
  have HDL := Lib.hid hdl
  clear hm hdl
  go_enter Try.func17, Try.ntmps17
  go_upto_region 1 with (fail)
  go_cut [3] (fun v3 wx => v3 = .slice A m c ∧ wx = w.alloc (.cells #[.int .i64 t, .int .i64 id, .int .i64 seq, .int .i64 ack, .slice A data.length c] 24))
  case first =>
    go_wp2
    all_goals
      go_meet
      refine ⟨?_, rfl⟩
      have := HM.out
      first | (rw [show m = 400 by omega]) | (rw [show m = data.length by omega])
  case rest =>
    obtain ⟨rfl, rfl⟩ := hcut
    have hIb := hId.below hbel0
    have hne : w.heap.size < (w.alloc (.cells #[.int .i64 t, .int .i64 id, .int .i64 seq, .int .i64 ack, .slice A data.length c] 24)).heap.size := by simp
    have hBs : (w.alloc (.cells #[.int .i64 t, .int .i64 id, .int .i64 seq, .int .i64 ack, .slice A data.length c] 24)).heap.size = w.heap.size + 1 := by simp
    generalize hwb : w.alloc (.cells #[.int .i64 t, .int .i64 id, .int .i64 seq, .int .i64 ack, .slice A data.length c] 24) = wb at *
    clear hwb
    have HBS := Lib.hid hBs
    clear hBs
    have u8w : IntKind.u8.wrap t = t % 256 := IntKind.wrap_u8 _
    have q1 := w32_ok id
    have q2 := w32_ok seq
    have q3 := w32_ok ack
    have e1 : IntKind.u32.wrap id = w32 id := IntKind.wrap_u32' _
    have e2 : IntKind.u32.wrap seq = w32 seq := IntKind.wrap_u32' _
    have e3 : IntKind.u32.wrap ack = w32 ack := IntKind.wrap_u32' _
    have n0 := World.new_ne wb ⟨w.heap.size, 0, none⟩ k0
    have n1 := World.new_ne wb ⟨w.heap.size, 1, none⟩ k1
    have n2 := World.new_ne wb ⟨w.heap.size, 2, none⟩ k2
    have n3 := World.new_ne wb ⟨w.heap.size, 3, none⟩ k3
    have hS : ∀ wx : World, (∀ i, wx.cell? ⟨w.heap.size, i, none⟩ = wb.cell? ⟨w.heap.size, i, none⟩) → wx.cell? ⟨w.heap.size, 0, none⟩ = some (.int .i64 t) ∧ wx.cell? ⟨w.heap.size, 1, none⟩ = some (.int .i64 id) ∧ wx.cell? ⟨w.heap.size, 2, none⟩ = some (.int .i64 seq) ∧ wx.cell? ⟨w.heap.size, 3, none⟩ = some (.int .i64 ack) := fun wx h => ⟨(h 0).trans k0, (h 1).trans k1, (h 2).trans k2, (h 3).trans k3⟩
    have own0 : OwnS (wb.alloc (.cells #[.int .u8 (t % 256)] 5)) (w.heap.size + 1) 5 1 (.slice (some ⟨wb.heap.size, 0, none⟩) 1 1) 1 ([t % 256].map (Value.int .u8)) :=
      ⟨rfl, .inr ⟨wb.heap.size, 0, 1, _, rfl, by have := HBS.out; omega, ⟨_, heap_alloc_new wb _, .inl (Nat.le_refl _)⟩, Nat.le_refl _, by decide, by simp, rfl⟩⟩
    have hB0 : Below (w.heap.size + 1) wb (wb.alloc (.cells #[.int .u8 (t % 256)] 5)) := (Below.refl _ _).alloc (by have := HBS.out; omega) _
    have hZ : ∀ wx : World, Below (w.heap.size + 1) wb wx → w.heap.size + 1 ≤ wx.heap.size := fun wx h => by have := h.size; have := HBS.out; omega
    clear hI hb hne
    go_wp2
    go_region_held3 (fun w' => w'.cell? ⟨w.heap.size, 0, none⟩ = some (.int .i64 t) ∧ w'.cell? ⟨w.heap.size, 1, none⟩ = some (.int .i64 id) ∧ w'.cell? ⟨w.heap.size, 2, none⟩ = some (.int .i64 seq) ∧ w'.cell? ⟨w.heap.size, 3, none⟩ = some (.int .i64 ack)) (first | exact hS7 | exact hS6 | exact hS5 | go_keep) (first
        | (have hm := ho6; go_at_call 53; refine (sfour_ints A6 c6 9 13 _ (w.heap.size + 1) (w32 ack) w6 rfl ho6 q3.1 q3.2 (by omega) (hZ _ hb6)).mono ?_; rintro e w7 ⟨A7, c7, rfl, ho7, hg7⟩; have hb7 := hb6.grown hg7 (hZ _ hb6) (fun q h => (ho6.lt q h).1); have hS7 := hS w7 (fun i => hb7.cell (p := ⟨w.heap.size, i, none⟩) (by simp)))
        | (have hm := ho5; go_at_call 53; refine (sfour_ints A5 c5 5 9 _ (w.heap.size + 1) (w32 seq) w5 rfl ho5 q2.1 q2.2 (by omega) (hZ _ hb5)).mono ?_; rintro e w6 ⟨A6, c6, rfl, ho6, hg6⟩; have hb6 := hb5.grown hg6 (hZ _ hb5) (fun q h => (ho5.lt q h).1); have hS6 := hS w6 (fun i => hb6.cell (p := ⟨w.heap.size, i, none⟩) (by simp)))
        | (go_at_call 53; refine (sfour_ints (some ⟨wb.heap.size, 0, none⟩) 1 1 5 _ (w.heap.size + 1) (w32 id) _ rfl (own0.drew) q1.1 q1.2 (by omega) (hZ _ hB0.drew)).mono ?_; rintro e w5 ⟨A5, c5, rfl, ho5, hg5⟩; have hb5 := hB0.drew.grown hg5 (hZ _ hB0.drew) (fun q h => (own0.lt q h).1); have hS5 := hS w5 (fun i => hb5.cell (p := ⟨w.heap.size, i, none⟩) (by simp))))
    have hb7' : Below wb.heap.size wb w7 := by rw [HBS.out]; exact hb7
    have hI7 := hIb.below hb7'
    have hz7 := hZ _ hb7
    clear k0 k1 k2 k3 n0 n1 n2 n3 hS own0 hB0 ho5 ho6 hg5 hg6 hg7 hb5 hb6 hS5 hS6 hS7 e1 e2 e3 u8w
    have e4 : IntKind.u8.wrap ((m : Int) / 256) = (m : Int) / 256 := by rw [IntKind.wrap_u8]; omega
    have e5 : IntKind.u8.wrap (m : Int) = (m : Int) % 256 := IntKind.wrap_u8 _
    have hdl := HDL.out
    go_wp2_with (first
      | (have hm := ho8; at_builtin; go_loud (refine wpList_append_S rfl (.tmp 37) (.tmp 38) 22 22 rfl i0 (.int .u8 0) 1 (.slice 5) Try.underlying22 Try.underlying22 (fun _ h => by cases h) hi hz0 hz1 hz2 rfl rfl rfl ho8 hsrc8 ?_ ?_ ?_ ?_; (unfold maxLen; omega); omega; (exact hz8); intro A9 c9 w9 ho9 hg9 hw9))
      | (at_builtin; go_loud (refine wpList_append_S rfl (.tmp 28) (.tmp 36) 22 22 rfl i0 (.int .u8 0) 1 (.slice 5) Try.underlying22 Try.underlying22 (fun _ h => by cases h) hi hz0 hz1 hz2 rfl rfl rfl (ho7.alloc _) (Src.new2 (u := .int .u8 ((m : Int) / 256)) (v := .int .u8 ((m : Int) % 256)) rfl rfl) ?_ ?_ ?_ ?_; (unfold maxLen; omega); omega; (simp; omega); intro A8 c8 w8 ho8 hg8 hw8; have hb8 := (hb7.alloc hz7 _).grown hg8 (by simp; omega) (fun q h => (ho7.lt q h).1); have hI8 := hIb.below (by rw [HBS.out]; exact hb8); have hz8 := hZ _ hb8; have hsrc8 := Src.ints (P := Try.prog) (c := c) hI8; rw [hdl] at hsrc8)))
    have hb9 := hb8.grown hg9 hz8 (fun q h => (ho8.lt q h).1)
    have hsl := segB_len ⟨t, id, seq, ack, data⟩
    have hsL := segL_len ⟨t, id, seq, ack, data⟩
    simp only [hdl] at hsl hsL
    have hbB := segB_ok ⟨t, id, seq, ack, data⟩ hbA
    have hcv := crcV_ok _ hbB
    have ho9' : OwnS w9 (w.heap.size + 1) 5 1 (.slice A9 (15 + m) c9) (15 + m) ((segB ⟨t, id, seq, ack, data⟩).map (Value.int .u8)) := by
      have e : (segB ⟨t, id, seq, ack, data⟩).map (Value.int .u8) = List.map (Value.int .u8) ([t % 256] ++ be4 (w32 id) ++ be4 (w32 seq) ++ be4 (w32 ack)) ++ [.int .u8 ((m : Int) / 256), .int .u8 ((m : Int) % 256)] ++ List.map (Value.int .u8) (data.take 400) := by
        simp [segB, hdl, List.map_append]
      rw [e]; exact ho9
    have hI9 := ho9'.ints
    clear ho7 ho8 hg8 hw8 hI8 hsrc8 hI7 ho9 hg9 hw9 hb8 hz8 hz7 hb7 hb7' e4 e5 hId hIb hbd hmin hdl
    have HSL := Lib.hid hsL
    clear hsL
    go_wp2_with fail
    refine (crc_any A9 _ c9 (segB ⟨t, id, seq, ack, data⟩) w9 hI9 hsl hbB (by omega) (crcOut_num _ hbB).1).mono ?_
    rw [(crcOut_num _ hbB).2, show (4294967295 - (crcTo 4294967295 (segB ⟨t, id, seq, ack, data⟩) : Nat) : Int) = crcV (segB ⟨t, id, seq, ack, data⟩) from rfl]
    rintro e w10 ⟨rfl, hb10⟩
    have hb10' := hb9.trans (hb10.mono (hZ _ hb9))
    have ho10 := ho9'.heap (w' := w10) (fun q hq => hb10.block q (ho9'.lt q hq).2)
    go_wp2_with fail
    refine (sfour_ints A9 c9 (15 + m) (19 + m) (segB ⟨t, id, seq, ack, data⟩) (w.heap.size + 1) (crcV (segB ⟨t, id, seq, ack, data⟩)) w10 (by omega) ho10 hcv.1 hcv.2 (by omega) (hZ _ hb10')).mono ?_
    rintro e w11 ⟨A11, c11, rfl, ho11, hg11⟩
    have hb11 := hb10'.grown hg11 (hZ _ hb10') (fun q h => (ho10.lt q h).1)
    go_wp2_with fail
    refine (clip_any A11 (19 + m) c11 w11 ho11.capLe.1 ho11.capLe.2).mono ?_
    rintro e w12 ⟨rfl, rfl⟩
    go_wp2
    go_ret
    refine ⟨A11, ?_, ?_, hbel0.trans (hb11.mono (Nat.le_succ _))⟩
    · rw [HSL.out]; rfl
    · rw [HSL.out]; exact (ho11.clip).base_ (Nat.le_succ _)
end Go.Proofs.Ytoeipgbnjcgbjaa
