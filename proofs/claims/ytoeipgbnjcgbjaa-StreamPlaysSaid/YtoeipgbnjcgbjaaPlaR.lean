/- The document's end in memory; Dial, Listen, Write, Close, Take, sent, acked, late, Done, Idle. -/
import Derived.Test.YtoeipgbnjcgbjaaPlaP
import Derived.Test.YtoeipgbnjcgbjaaSeg6
namespace Go.Proofs.Ytoeipgbnjcgbjaa
open Go.RowKit
set_option linter.unusedVariables false
set_option linter.unusedSimpArgs false

def rF (t : En) (i : Nat) : Value :=
  if i = 0 then .int .i64 t.id else if i = 1 then .int .i64 t.st else if i = 2 then .string (strOfNums t.out) else if i = 3 then .bool t.closed else if i = 4 then .int .i64 t.una else if i = 5 then .int .i64 t.next
  else if i = 6 then .bool t.endSent else if i = 7 then .bool t.endAcked else if i = 8 then .int .i64 t.at_ else if i = 9 then .bool t.dialed else if i = 10 then .string (strOfNums t.inn) else if i = 11 then .int .i64 t.read
  else if i = 12 then .bool t.other else .bool t.owes
def RefAt (g : Nat) (w : World) (t : En) : Prop := Cel w g 99 14 (rF t)
section
variable {g : Nat} {w w' : World} {t t' : En}
theorem RefAt.blk (h : RefAt g w t) : g < w.heap.size := Cel.blk h
theorem RefAt.drew (h : RefAt g w t) : RefAt g w.drew t := Cel.drew h
theorem RefAt.drewN (h : RefAt g w t) (n : Nat) : RefAt g (w.drewN n) t := Cel.drewN h n
theorem RefAt.chg {S : Nat → Prop} (h : RefAt g w t) (hc : Chg S w w') (hS : ¬ S g) : RefAt g w' t := Cel.chg h hc hS
theorem RefAt.below (h : RefAt g w t) (hb : Below w.heap.size w w') : RefAt g w' t := Cel.chg h (S := fun _ => False) (Chg.of_below hb) (fun h => h)
theorem RefAt.at_ (h : RefAt g w t) (i : Nat) (hi : i < 14) : w.cell? ⟨g, i, none⟩ = some (rF t i) := Cel.cell h i hi
theorem RefAt.c0 (h : RefAt g w t) : w.cell? ⟨g, 0, none⟩ = some (.int .i64 t.id) := h.at_ 0 (by decide)
theorem RefAt.c1 (h : RefAt g w t) : w.cell? ⟨g, 1, none⟩ = some (.int .i64 t.st) := h.at_ 1 (by decide)
theorem RefAt.c2 (h : RefAt g w t) : w.cell? ⟨g, 2, none⟩ = some (.string (strOfNums t.out)) := h.at_ 2 (by decide)
theorem RefAt.c3 (h : RefAt g w t) : w.cell? ⟨g, 3, none⟩ = some (.bool t.closed) := h.at_ 3 (by decide)
theorem RefAt.c4 (h : RefAt g w t) : w.cell? ⟨g, 4, none⟩ = some (.int .i64 t.una) := h.at_ 4 (by decide)
theorem RefAt.c5 (h : RefAt g w t) : w.cell? ⟨g, 5, none⟩ = some (.int .i64 t.next) := h.at_ 5 (by decide)
theorem RefAt.c6 (h : RefAt g w t) : w.cell? ⟨g, 6, none⟩ = some (.bool t.endSent) := h.at_ 6 (by decide)
theorem RefAt.c7 (h : RefAt g w t) : w.cell? ⟨g, 7, none⟩ = some (.bool t.endAcked) := h.at_ 7 (by decide)
theorem RefAt.c8 (h : RefAt g w t) : w.cell? ⟨g, 8, none⟩ = some (.int .i64 t.at_) := h.at_ 8 (by decide)
theorem RefAt.c9 (h : RefAt g w t) : w.cell? ⟨g, 9, none⟩ = some (.bool t.dialed) := h.at_ 9 (by decide)
theorem RefAt.c10 (h : RefAt g w t) : w.cell? ⟨g, 10, none⟩ = some (.string (strOfNums t.inn)) := h.at_ 10 (by decide)
theorem RefAt.c11 (h : RefAt g w t) : w.cell? ⟨g, 11, none⟩ = some (.int .i64 t.read) := h.at_ 11 (by decide)
theorem RefAt.c12 (h : RefAt g w t) : w.cell? ⟨g, 12, none⟩ = some (.bool t.other) := h.at_ 12 (by decide)
theorem RefAt.c13 (h : RefAt g w t) : w.cell? ⟨g, 13, none⟩ = some (.bool t.owes) := h.at_ 13 (by decide)
theorem RefAt.fr (h : RefAt g w t) (i : Nat) : w.frozen? ⟨g, i, none⟩ = false := Cel.frozen h i
theorem RefAt.set (h : RefAt g w t) (i : Nat) (u : Value) (t' : En) (hf : ∀ j, j < 14 → (if j = i then u else rF t j) = rF t' j) : RefAt g (w.setCell ⟨g, i, none⟩ u) t' := (Cel.set h i u).congr hf
end
theorem strN_append (a b : List Int) : strOfNums a ++ strOfNums b = strOfNums (a ++ b) := by
  apply ByteArray.ext
  rw [ByteArray.data_append]
  simp [strOfNums]
theorem strN_extract (a : List Int) (i j : Nat) : (strOfNums a).extract i j = strOfNums ((a.take j).drop i) := by
  apply ByteArray.ext
  rw [ByteArray.data_extract]
  apply Array.toList_inj.1
  rw [Array.toList_extract]
  simp only [strOfNums, List.extract_eq_take_drop, List.map_drop, List.map_take]
  rw [List.drop_take]
/-- What a call on the document's end answers, and what it leaves. -/
def RPost (g : Nat) (w : World) (v : Value) (t' : En) (e : Ending) (w' : World) : Prop := e = .returned v ∧ RefAt g w' t' ∧ Chg (fun k => k = g) w w'
def RefNew (w : World) (t : En) (e : Ending) (w' : World) : Prop := e = .returned (.pointer (some ⟨w.heap.size, 0, none⟩)) ∧ RefAt w.heap.size w' t ∧ Below w.heap.size w w'
set_option maxRecDepth 100000 in
theorem rdial_any (id : Int) (w : World) : Calls Try.prog 29 #[.int .i64 id] w (RefNew w (newEnd id 1)) := by
  have e1 : IntKind.u32.wrap id = w32 id := IntKind.wrap_u32' _
  have h1 := w32_ok id
  have e2 : IntKind.i64.wrap (w32 id) = w32 id := IntWalk.i64_in _ (by omega)
  go_enter Try.func29, Try.ntmps29
  go_wp2
  go_ret
  refine ⟨rfl, Cel.new w _ _ _ (enF_cases rfl rfl rfl rfl rfl rfl rfl rfl rfl rfl rfl rfl rfl rfl), (Below.refl _ _).alloc (Nat.le_refl _) _⟩
set_option maxRecDepth 100000 in
theorem rlisten_any (id : Int) (w : World) : Calls Try.prog 30 #[.int .i64 id] w (RefNew w (newEnd id 2)) := by
  have e1 : IntKind.u32.wrap id = w32 id := IntKind.wrap_u32' _
  have h1 := w32_ok id
  have e2 : IntKind.i64.wrap (w32 id) = w32 id := IntWalk.i64_in _ (by omega)
  go_enter Try.func30, Try.ntmps30
  go_wp2
  go_ret
  refine ⟨rfl, Cel.new w _ _ _ (enF_cases rfl rfl rfl rfl rfl rfl rfl rfl rfl rfl rfl rfl rfl rfl), (Below.refl _ _).alloc (Nat.le_refl _) _⟩
set_option maxRecDepth 100000 in
set_option maxHeartbeats 1000000 in
theorem rwrite_any (g : Nat) (t : En) (b : List Int) (w : World) (h : RefAt g w t) (ho : EnOk t) (hb : b.length ≤ 140737488351232) :
    Calls Try.prog 31 #[.pointer (some ⟨g, 0, none⟩), .string (strOfNums b)] w (RPost g w (.int .i64 (writeS t b).1) (writeS t b).2) := by
  have c1 := h.c1
  have c2 := h.c2
  have c3 := h.c3
  have f2 := h.fr 2
  have sz1 := strOfNums_size' b
  have sz2 := strOfNums_size' t.out
  have hol := ho.outl
  have hap := strN_append t.out b
  have HW : Hid (writeS t b = if t.st = 4 then (81, t) else if t.closed then (1, t) else if (1048576 : Int) - t.out.length < b.length then (60, t) else (0, { t with out := t.out ++ b })) := rfl
  have H := Lib.hid h
  have HA := Lib.hid hap
  obtain ⟨bn, hbn⟩ : ∃ n, b.length = n := ⟨_, rfl⟩
  obtain ⟨on, hon⟩ : ∃ n, t.out.length = n := ⟨_, rfl⟩
  rw [hbn] at sz1 hb HW
  rw [hon] at sz2 hol HW
  clear h ho hap hbn hon
  by_cases h4 : t.st = 4
  · have d1 : (t.st == 4) = true := by simpa using h4
    have hw : writeS t b = (81, t) := by rw [HW.out, if_pos h4]
    have HH := Lib.hid hw
    clear HW h4 hw
    go_enter Try.func31, Try.ntmps31
    go_wp2
    go_ret
    rw [RPost, HH.out]
    exact ⟨rfl, H.out, Chg.refl _ _⟩
  · have d1 : (t.st == 4) = false := by simpa using h4
    cases hcl : t.closed
    · rw [hcl] at c3
      by_cases h6 : (1048576 : Int) - on < bn
      · have d2 : decide ((1048576 : Int) - (on : Int) < (bn : Int)) = true := decide_eq_true h6
        have hw : writeS t b = (60, t) := by rw [HW.out, if_neg h4, hcl, if_neg (by decide), if_pos h6]
        have HH := Lib.hid hw
        clear HW h4 hw h6
        go_enter Try.func31, Try.ntmps31
        go_wp2
        go_ret
        rw [RPost, HH.out]
        exact ⟨rfl, H.out, Chg.refl _ _⟩
      · have d2 : decide ((1048576 : Int) - (on : Int) < (bn : Int)) = false := decide_eq_false h6
        have hw : writeS t b = (0, { t with out := t.out ++ b }) := by rw [HW.out, if_neg h4, hcl, if_neg (by decide), if_neg h6]
        have HH := Lib.hid hw
        have hbo : bn + on ≤ 1048576 := by omega
        clear HW h4 hw h6
        go_enter Try.func31, Try.ntmps31
        go_wp2
        go_ret
        rw [RPost, HH.out]
        refine ⟨rfl, H.out.set 2 _ _ ?_, (Chg.refl (fun k => k = g) w).setCell (.inl rfl) _⟩
        rw [HA.out]
        exact enF_cases rfl rfl rfl rfl rfl rfl rfl rfl rfl rfl rfl rfl rfl rfl
    · rw [hcl] at c3
      have hw : writeS t b = (1, t) := by rw [HW.out, if_neg h4, hcl, if_pos rfl]
      have HH := Lib.hid hw
      clear HW h4 hw
      go_enter Try.func31, Try.ntmps31
      go_wp2
      go_ret
      rw [RPost, HH.out]
      exact ⟨rfl, H.out, Chg.refl _ _⟩
end Go.Proofs.Ytoeipgbnjcgbjaa
