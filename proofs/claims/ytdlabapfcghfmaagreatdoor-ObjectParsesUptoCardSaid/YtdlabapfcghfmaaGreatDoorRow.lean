/- Whole arrays read out of, and stored into, the middle of a block. -/
import Derived.Test.YtdlabapfcghfmaaGreatDoorLib
namespace Go.Proofs.YtdlabapfcghfmaaGreatDoor
open Go.RowKit
section
variable {P : Program} {w : World} {g N off : Nat} {t ty : TypeId} {f : Nat → Value} {vs : Array Value} {d : TypeDesc}

theorem run_load_part (h : Cel w g t N f) (hu : P.underlying ty = some d) (hd : (match d with | .struct _ | .array _ _ => true | _ => false) = true) (hi : (P.info? ty).map (·.size) = some vs.size)
    (hn : off + vs.size ≤ N) (hv : ∀ j, j < vs.size → vs[j]? = some (f (off + j))) : (loadVar ty ⟨g, off, none⟩).run P w = .ok (.agg vs) w := by
  have hl : (loadCells ⟨g, off, none⟩ vs.toList.length).run P w = .ok vs.toList.toArray w :=
    run_loadCells_list (P := P) w ⟨g, off, none⟩ vs.toList (fun j v hj => by
      have hjl : j < vs.size := by have := (List.getElem?_eq_some_iff.1 hj).1; simpa using this
      rw [Addr.add_lit, h.cell (off + j) (by omega), ← hv j hjl, ← hj]
      simp)
  cases hq : P.info? ty with
  | none => simp [hq] at hi
  | some i =>
    have hs : i.size = vs.size := by simpa [hq] using hi
    have hagg : (isAgg ty).run P w = .ok true w := by
      unfold isAgg
      rw [Sem.run_bind, run_underlying hu w]
      cases d <;> simp_all
    simp only [Array.length_toList, Array.toArray_toList] at hl
    simp [loadVar, Sem.run_bind, hagg, sizeOf, typeInfo, hq, hs, hl]
theorem run_store_part (h : Cel w g t N f) (hi : (P.info? ty).map (·.size) = some vs.size) (hn : off + vs.size ≤ N) (h1 : ∀ v ∈ vs.toList, v.oneCell' = true) :
    ∃ w', (storeVar ty ⟨g, off, none⟩ (.agg vs)).run P w = .ok () w' ∧ Cel w' g t N (fun j => if off ≤ j ∧ j < off + vs.size then vs.getD (j - off) undef else f j) ∧ w.grownBy w' (some g) ∧ w'.heap.size = w.heap.size := by
  obtain ⟨cs, h0, h2, h3⟩ := h
  have hst := run_storeCells_at P g off t vs.toList 0 cs w h0 (by simp; omega) h1
  simp only [Nat.add_zero] at hst
  refine ⟨w.setRow g (cs.toList.take off ++ vs.toList ++ cs.toList.drop (off + vs.toList.length)).toArray, ?_, ⟨(cs.toList.take off ++ vs.toList ++ cs.toList.drop (off + vs.toList.length)).toArray, setRow_heap w g cs _ t _ h0, ?_, fun i hi => ?_⟩, ⟨rfl, rfl, rfl, by simp, fun k _ hk => setRow_other w g k _ (fun e => hk (by rw [e]))⟩, by simp⟩
  · cases hq : P.info? ty with
    | none => simp [hq] at hi
    | some i =>
      have hs : vs.size = i.size := by simp [hq] at hi; omega
      rw [Array.length_toList, hs, List.append_assoc] at hst
      simp [storeVar, sizeOf, typeInfo, hq, Value.cells, hs]
      exact hst
  · simp; omega
  · have hcl : cs.toList.length = N := by simpa using h2
    simp only [List.getElem?_toArray]
    by_cases h4 : i < off
    · rw [List.append_assoc, List.getElem?_append_left (by simp; omega), List.getElem?_take, if_pos h4, if_neg (by omega)]
      simpa using h3 i hi
    · by_cases h5 : i < off + vs.size
      · rw [List.append_assoc, List.getElem?_append_right (by simp; omega), List.getElem?_append_left (by simp; omega), if_pos ⟨by omega, h5⟩]
        have e : i - (List.take off cs.toList).length = i - off := by simp; omega
        rw [e]
        have hlt : i - off < vs.size := by omega
        simp [hlt]
      · rw [List.getElem?_append_right (by simp; omega), if_neg (by omega), List.getElem?_drop]
        have e : off + vs.toList.length + (i - (List.take off cs.toList ++ vs.toList).length) = i := by simp; omega
        rw [e]
        simpa using h3 i hi

theorem wpList_load_part {ops : Array Oper} {rest : List Oper} {o : Oper} {a : Act} {Q : Exit → Act → World → Prop} (hgd : o.guard = none) (x : Operand) (ho : o.op = .load ty x)
    (hx : a.eval x = .pointer (some ⟨g, off, none⟩)) (h : Cel w g t N f) (hu : P.underlying ty = some d) (hd : (match d with | .struct _ | .array _ _ => true | _ => false) = true) (hi : (P.info? ty).map (·.size) = some vs.size)
    (hn : off + vs.size ≤ N) (hv : ∀ j, j < vs.size → vs[j]? = some (f (off + j)))
    (hk : wpList P ops Q rest (a.put o.dst (.agg vs)) w) : wpList P ops Q (o :: rest) a w :=
  wpList_plain hgd fun K hK => by
    unfold Oper.wp execOp
    simp only [ho, hx, Instr.loadAt, Instr.sureAddr, Sem.run_bind, Sem.run_pure, Result.andThen_ok, run_load_part h hu hd hi hn hv]
    exact hK _ _ hk
theorem wpList_store_part {ops : Array Oper} {rest : List Oper} {o : Oper} {a : Act} {Q : Exit → Act → World → Prop} (hgd : o.guard = none) (x y : Operand) (ho : o.op = .store ty x y)
    (hx : a.eval x = .pointer (some ⟨g, off, none⟩)) (hy : a.eval y = .agg vs) (h : Cel w g t N f) (hi : (P.info? ty).map (·.size) = some vs.size) (hn : off + vs.size ≤ N) (h1 : ∀ v ∈ vs.toList, v.oneCell' = true)
    (hk : ∀ w', Cel w' g t N (fun j => if off ≤ j ∧ j < off + vs.size then vs.getD (j - off) undef else f j) → w.grownBy w' (some g) → w'.heap.size = w.heap.size → wpList P ops Q rest (a.put o.dst undef) w') : wpList P ops Q (o :: rest) a w :=
  wpList_plain hgd fun K hK => by
    obtain ⟨w', hr, h2, h3, h4⟩ := run_store_part (P := P) h hi hn h1
    unfold Oper.wp execOp
    simp only [ho, hx, hy, Instr.storeAt, Instr.sureAddr, Sem.run_bind, Sem.run_pure, Result.andThen_ok, hr]
    exact hK _ _ (hk w' h2 h3 h4)
theorem results_cel {fn : Func} {p : Tmp} {ty : TypeId} {vs : Array Value} (hr : fn.results = #[.cell p ty]) (tmps : Array Value) (hp : tmps.getD p undef = .pointer (some ⟨g, 0, none⟩)) (h : Cel w g t N f)
    (hu : P.underlying ty = some d) (hd : (match d with | .struct _ | .array _ _ => true | _ => false) = true) (hi : (P.info? ty).map (·.size) = some vs.size) (hn : vs.size ≤ N) (hv : ∀ j, j < vs.size → vs[j]? = some (f j)) :
    (results fn tmps).run P w = .ok (.agg vs) w := by
  have hp' : tmps[p]?.getD undef = .pointer (some ⟨g, 0, none⟩) := by simpa using hp
  have := run_load_part (P := P) (ty := ty) (vs := vs) (off := 0) h hu hd hi (by omega) (fun j hj => by rw [Nat.zero_add]; exact hv j hj)
  simp [results, hr, hp', asAddr, this]
theorem results_cel2 {fn : Func} {p q : Tmp} {ty : TypeId} {vs : Array Value} (hr : fn.results = #[.cell p ty, .tmp q]) (tmps : Array Value) (b : Value) (hp : tmps.getD p undef = .pointer (some ⟨g, 0, none⟩)) (hq : tmps.getD q undef = b) (h : Cel w g t N f)
    (hu : P.underlying ty = some d) (hd : (match d with | .struct _ | .array _ _ => true | _ => false) = true) (hi : (P.info? ty).map (·.size) = some vs.size) (hn : vs.size ≤ N) (hv : ∀ j, j < vs.size → vs[j]? = some (f j)) :
    (results fn tmps).run P w = .ok (.tuple #[.agg vs, b]) w := by
  have hp' : tmps[p]?.getD undef = .pointer (some ⟨g, 0, none⟩) := by simpa using hp
  have hq' : tmps[q]?.getD undef = b := by simpa using hq
  have := run_load_part (P := P) (ty := ty) (vs := vs) (off := 0) h hu hd hi (by omega) (fun j hj => by rw [Nat.zero_add]; exact hv j hj)
  simp [results, hr, hp', hq', asAddr, this]
end
end Go.Proofs.YtdlabapfcghfmaaGreatDoor
