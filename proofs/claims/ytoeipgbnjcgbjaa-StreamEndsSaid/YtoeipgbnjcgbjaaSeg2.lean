/- Walk: the document's Segment. -/
import Derived.Test.YtoeipgbnjcgbjaaSeg1
import Derived.Test.YtoeipgbnjcgbjaaSumRefB
namespace Go.Proofs.Ytoeipgbnjcgbjaa
open Go.RowKit
set_option linter.unusedVariables false

theorem strOfNums_size' (xs : List Int) : (strOfNums xs).size = xs.length := by
  show (strOfNums xs).data.size = _
  rw [← Array.length_toList, strOfNums_data, List.length_map]
theorem own_seg {w : World} {base : Nat} {A : Option Addr} {c n : Nat} (t id seq ack : Int) (data : List Int) (m : Nat) (hdl : (data.take 400).length = m)
    (h : OwnS w base 5 1 (.slice A n c) n (List.map (Value.int .u8) ([t % 256] ++ be4 (w32 id) ++ be4 (w32 seq) ++ be4 (w32 ack)) ++ [.int .u8 ((m : Int) / 256), .int .u8 ((m : Int) % 256)] ++ List.map (Value.int .u8) (data.take 400))) :
    OwnS w base 5 1 (.slice A n c) n ((segB ⟨t, id, seq, ack, data⟩).map (Value.int .u8)) := by
  have e : (segB ⟨t, id, seq, ack, data⟩).map (Value.int .u8) = List.map (Value.int .u8) ([t % 256] ++ be4 (w32 id) ++ be4 (w32 seq) ++ be4 (w32 ack)) ++ [.int .u8 ((m : Int) / 256), .int .u8 ((m : Int) % 256)] ++ List.map (Value.int .u8) (data.take 400) := by
    simp [segB, hdl, List.map_append]
  rw [e]; exact h
set_option maxRecDepth 100000 in
set_option maxHeartbeats 8000000 in
theorem refSegment_any (s : Sg) (A : Option Addr) (c : Nat) (w : World) (hI : Ints .u8 w A s.data) (hb : Bytes s.data) (hc : s.data.length ≤ c) (hsz : c ≤ 9223372036854775807) :
    Calls Try.prog 18 #[segV s A c] w fun e w' => e = .returned (.string (strOfNums (segL s))) ∧ Below w.heap.size w w' := by
  obtain ⟨i0, hi, hz0, hz1, hz2⟩ := info_parts Try.info_u8
  obtain ⟨t, id, seq, ack, data⟩ := s
  simp only [segV] at hI hb hc ⊢
  obtain ⟨m, hm⟩ : ∃ m, m = min data.length 400 := ⟨_, rfl⟩
  have hmc : (m : Int) ≤ c := by omega
  have hm400 : m ≤ 400 := by omega
  have hdl : (data.take 400).length = m := by rw [List.length_take]; omega
  have hId := hI.take 400
  have hbA := hb
  have k0 : (w.alloc (.cells #[.int .i64 t, .int .i64 id, .int .i64 seq, .int .i64 ack, .slice A data.length c] 24)).cell? ⟨w.heap.size, 0, none⟩ = some (.int .i64 t) := cell_of_row _ _ 0 _ _ (0, 0) (heap_alloc_new w _)
  have k1 : (w.alloc (.cells #[.int .i64 t, .int .i64 id, .int .i64 seq, .int .i64 ack, .slice A data.length c] 24)).cell? ⟨w.heap.size, 1, none⟩ = some (.int .i64 id) := cell_of_row _ _ 1 _ _ (0, 0) (heap_alloc_new w _)
  have k2 : (w.alloc (.cells #[.int .i64 t, .int .i64 id, .int .i64 seq, .int .i64 ack, .slice A data.length c] 24)).cell? ⟨w.heap.size, 2, none⟩ = some (.int .i64 seq) := cell_of_row _ _ 2 _ _ (0, 0) (heap_alloc_new w _)
  have k3 : (w.alloc (.cells #[.int .i64 t, .int .i64 id, .int .i64 seq, .int .i64 ack, .slice A data.length c] 24)).cell? ⟨w.heap.size, 3, none⟩ = some (.int .i64 ack) := cell_of_row _ _ 3 _ _ (0, 0) (heap_alloc_new w _)
  have hbel0 : Below w.heap.size w (w.alloc (.cells #[.int .i64 t, .int .i64 id, .int .i64 seq, .int .i64 ack, .slice A data.length c] 24)) := (Below.refl _ _).alloc (Nat.le_refl _) _
  have HM := Lib.hid hm
  have HDL := Lib.hid hdl
  clear hm hdl
  have u8w : IntKind.u8.wrap t = t % 256 := IntKind.wrap_u8 _
  have q1 := w32_ok id
  have q2 := w32_ok seq
  have q3 := w32_ok ack
  have e1 : IntKind.u32.wrap id = w32 id := IntKind.wrap_u32' _
  have e2 : IntKind.u32.wrap seq = w32 seq := IntKind.wrap_u32' _
  have e3 : IntKind.u32.wrap ack = w32 ack := IntKind.wrap_u32' _
  go_enter Try.func18, Try.ntmps18
  go_upto_if 9 with (fail)
  go_cut [3] (fun v3 wx => v3 = .slice A m c ∧ wx = w.alloc (.cells #[.int .i64 t, .int .i64 id, .int .i64 seq, .int .i64 ack, .slice A data.length c] 24))
  case first =>
    go_wp2
    all_goals
      go_meet
      refine ⟨?_, rfl⟩
      have := HM.out
      first | (rw [show m = 400 by omega]) | (rw [show m = data.length by omega])
  case rest =>
    obtain ⟨rfl, rfl⟩ := hcut
    have hIb := hId.below hbel0
    have hBs : (w.alloc (.cells #[.int .i64 t, .int .i64 id, .int .i64 seq, .int .i64 ack, .slice A data.length c] 24)).heap.size = w.heap.size + 1 := by simp
    generalize hwb : w.alloc (.cells #[.int .i64 t, .int .i64 id, .int .i64 seq, .int .i64 ack, .slice A data.length c] 24) = wb at *
    clear hwb
    have HBS := Lib.hid hBs
    clear hBs
    have own0 : OwnS (wb.alloc (.cells #[.int .u8 (t % 256)] 5)) (w.heap.size + 1) 5 1 (.slice (some ⟨wb.heap.size, 0, none⟩) 1 1) 1 ([t % 256].map (Value.int .u8)) :=
      ⟨rfl, .inr ⟨wb.heap.size, 0, 1, _, rfl, by have := HBS.out; omega, ⟨_, heap_alloc_new wb _, .inl (Nat.le_refl _)⟩, Nat.le_refl _, by decide, by simp, rfl⟩⟩
    have hB0 : Below (w.heap.size + 1) wb (wb.alloc (.cells #[.int .u8 (t % 256)] 5)) := (Below.refl _ _).alloc (by have := HBS.out; omega) _
    have hZ : ∀ wx : World, Below (w.heap.size + 1) wb wx → w.heap.size + 1 ≤ wx.heap.size := fun wx h => by have := h.size; have := HBS.out; omega
    have hK : ∀ wx : World, Below (w.heap.size + 1) wb wx → ∀ i, wx.cell? ⟨w.heap.size, i, none⟩ = wb.cell? ⟨w.heap.size, i, none⟩ := fun wx h i => h.cell (p := ⟨w.heap.size, i, none⟩) (by simp)
    clear hI hb
    go_wp2_with fail
    have hr1 := (hK _ hB0)
    refine (word_any (w32 id) _ q1.1 q1.2).mono ?_
    rintro e v1 ⟨B1, d1, rfl, hp1, hx1⟩
    have hb1 := hB0.trans (hx1.mono (hZ _ hB0))
    have ho1 := own0.heap (w' := v1) (fun q hq => hx1.block q (own0.lt q hq).2)
    have hs1 : Src Try.prog v1 1 (.slice B1 4 d1) 4 ((be4 (w32 id)).map (Value.int .u8)) := Src.ints hp1.ints
    have hz1' := hZ _ hb1
    clear hr1 hx1 hp1 own0 hB0
    go_wp2_with (at_builtin; go_loud (refine wpList_append_S rfl (.tmp 16) (.tmp 20) 22 22 rfl i0 (.int .u8 0) 1 (.slice 5) Try.underlying22 Try.underlying22 (fun _ h => by cases h) hi hz0 hz1 hz2 rfl rfl rfl ho1 hs1 ?_ ?_ ?_ ?_; (unfold maxLen; omega); omega; (exact hz1'); intro A2 c2 w2 ho2 hg2 hw2; rw [← List.map_append] at ho2; have hb2 := hb1.grown hg2 hz1' (fun q h => (ho1.lt q h).1); have hk2 := (hK _ hb2 2).trans k2))
    clear ho1 hs1 hz1' hg2 hw2 hb1
    go_wp2_with fail
    refine (word_any (w32 seq) _ q2.1 q2.2).mono ?_
    rintro e v3 ⟨B3, d3, rfl, hp3, hx3⟩
    have hb3 := hb2.trans (hx3.mono (hZ _ hb2))
    have ho3 := ho2.heap (w' := v3) (fun q hq => hx3.block q (ho2.lt q hq).2)
    have hs3 : Src Try.prog v3 1 (.slice B3 4 d3) 4 ((be4 (w32 seq)).map (Value.int .u8)) := Src.ints hp3.ints
    have hz3' := hZ _ hb3
    clear hx3 hp3 ho2 hb2 hk2
    go_wp2_with (at_builtin; go_loud (refine wpList_append_S rfl (.tmp 22) (.tmp 26) 22 22 rfl i0 (.int .u8 0) 1 (.slice 5) Try.underlying22 Try.underlying22 (fun _ h => by cases h) hi hz0 hz1 hz2 rfl rfl rfl ho3 hs3 ?_ ?_ ?_ ?_; (unfold maxLen; omega); omega; (exact hz3'); intro A4 c4 w4 ho4 hg4 hw4; rw [← List.map_append] at ho4; have hb4 := hb3.grown hg4 hz3' (fun q h => (ho3.lt q h).1); have hk4 := (hK _ hb4 3).trans k3))
    clear ho3 hs3 hz3' hg4 hw4 hb3
    go_wp2_with fail
    refine (word_any (w32 ack) _ q3.1 q3.2).mono ?_
    rintro e v5 ⟨B5, d5, rfl, hp5, hx5⟩
    have hb5 := hb4.trans (hx5.mono (hZ _ hb4))
    have ho5 := ho4.heap (w' := v5) (fun q hq => hx5.block q (ho4.lt q hq).2)
    have hs5 : Src Try.prog v5 1 (.slice B5 4 d5) 4 ((be4 (w32 ack)).map (Value.int .u8)) := Src.ints hp5.ints
    have hz5' := hZ _ hb5
    clear hx5 hp5 ho4 hb4 hk4
    have e4 : IntKind.u8.wrap ((m : Int) / 256) = (m : Int) / 256 := by rw [IntKind.wrap_u8]; omega
    have e5 : IntKind.u8.wrap (m : Int) = (m : Int) % 256 := IntKind.wrap_u8 _
    have hdl := HDL.out
    have hsl := segB_len ⟨t, id, seq, ack, data⟩
    have hsL := segL_len ⟨t, id, seq, ack, data⟩
    simp only [hdl] at hsl hsL
    have hbB := segB_ok ⟨t, id, seq, ack, data⟩ hbA
    have hcvv := crcV_ok _ hbB
    have hcr : (4294967295 - (rcTo 4294967295 (bytesOf (strOfNums (segB ⟨t, id, seq, ack, data⟩))) : Nat) : Int) = crcV (segB ⟨t, id, seq, ack, data⟩) := by
      rw [bytesOf_str _ hbB, ← crcTo_bits]; rfl
    have HSL := Lib.hid hsL
    have HCR := Lib.hid hcr
    clear hsL hcr
    go_wp2_with (first
      | (have hm := ho7; at_builtin; go_loud (refine wpList_append_S rfl (.tmp 44) (.tmp 45) 22 22 rfl i0 (.int .u8 0) 1 (.slice 5) Try.underlying22 Try.underlying22 (fun _ h => by cases h) hi hz0 hz1 hz2 rfl rfl rfl ho7 hs7 ?_ ?_ ?_ ?_; (unfold maxLen; omega); omega; (exact hz7'); intro A8 c8 w8 ho8 hg8 hw8; have ho8p := own_seg _ _ _ _ _ m hdl ho8; have hb8 := hb7.grown hg8 hz7' (fun q h => (ho7.lt q h).1); have hcv := run_str_ints (P := Try.prog) (w := w8) 22 9 5 Try.underlying22 Try.underlying5 Try.underlying9 A8 c8 (segB ⟨t, id, seq, ack, data⟩) ho8p.ints; rw [hsl] at hcv))
      | (have hm := ho6; at_builtin; go_loud (refine wpList_append_S rfl (.tmp 34) (.tmp 42) 22 22 rfl i0 (.int .u8 0) 1 (.slice 5) Try.underlying22 Try.underlying22 (fun _ h => by cases h) hi hz0 hz1 hz2 rfl rfl rfl (ho6.alloc _) (Src.new2 (u := .int .u8 ((m : Int) / 256)) (v := .int .u8 ((m : Int) % 256)) rfl rfl) ?_ ?_ ?_ ?_; (unfold maxLen; omega); omega; (simp; omega); intro A7 c7 w7 ho7 hg7 hw7; have hb7 := (hb6.alloc hz6' _).grown hg7 (by simp; omega) (fun q h => (ho6.lt q h).1); have hI7 := hIb.below (by rw [HBS.out]; exact hb7); have hz7' := hZ _ hb7; have hs7 := Src.ints (P := Try.prog) (c := c) hI7; rw [hdl] at hs7))
      | (at_builtin; go_loud (refine wpList_append_S rfl (.tmp 28) (.tmp 32) 22 22 rfl i0 (.int .u8 0) 1 (.slice 5) Try.underlying22 Try.underlying22 (fun _ h => by cases h) hi hz0 hz1 hz2 rfl rfl rfl ho5 hs5 ?_ ?_ ?_ ?_; (unfold maxLen; omega); omega; (exact hz5'); intro A6 c6 w6 ho6 hg6 hw6; have hb6 := hb5.grown hg6 hz5' (fun q h => (ho5.lt q h).1); have hz6' := hZ _ hb6; rw [← List.map_append] at ho6)))
    have hI8 := ho8p.ints
    clear ho5 ho6 ho7 ho8 hg6 hg7 hg8 hw6 hw7 hw8 hb5 hb6 hb7 hI7 hs7 hs5 hcv
    refine (refCrc_any (strOfNums (segB ⟨t, id, seq, ack, data⟩)) w8 (by rw [strOfNums_size', hsl]; omega)).mono ?_
    rw [HCR.out]
    rintro e v8 ⟨rfl, rfl⟩
    go_wp2_with fail
    refine (word_any (crcV (segB ⟨t, id, seq, ack, data⟩)) w8 hcvv.1 hcvv.2).mono ?_
    rintro e v9 ⟨B9, d9, rfl, hp9, hx9⟩
    have hb9 := hb8.trans (hx9.mono (hZ _ hb8))
    have ho9 := ho8p.heap (w' := v9) (fun q hq => hx9.block q (ho8p.lt q hq).2)
    have hs9 : Src Try.prog v9 1 (.slice B9 4 d9) 4 ((be4 (crcV (segB ⟨t, id, seq, ack, data⟩))).map (Value.int .u8)) := Src.ints hp9.ints
    have hz9' := hZ _ hb9
    clear hx9 hp9 ho8p hb8 hI8
    go_wp2_with (at_builtin; go_loud (refine wpList_append_S rfl (.tmp 47) (.tmp 51) 22 22 rfl i0 (.int .u8 0) 1 (.slice 5) Try.underlying22 Try.underlying22 (fun _ h => by cases h) hi hz0 hz1 hz2 rfl rfl rfl ho9 hs9 ?_ ?_ ?_ ?_; (unfold maxLen; omega); omega; (exact hz9'); intro A10 c10 w10 ho10 hg10 hw10; rw [← List.map_append, ← segL] at ho10; have hb10 := hb9.grown hg10 hz9' (fun q h => (ho9.lt q h).1); have hcv := run_str_ints (P := Try.prog) (w := w10) 22 9 5 Try.underlying22 Try.underlying5 Try.underlying9 A10 c10 (segL ⟨t, id, seq, ack, data⟩) ho10.ints; rw [HSL.out, show 19 + m = 15 + m + 4 by omega] at hcv))
    go_ret
    exact ⟨rfl, hbel0.trans (hb10.mono (Nat.le_succ _))⟩
end Go.Proofs.Ytoeipgbnjcgbjaa
