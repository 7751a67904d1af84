/- How a file system lies in memory: maps of names, files, changes. -/
import Derived.Test.YtmoaabjiokjjlaaChg
import Derived.Test.YtmoaabjiokjjlaaFsP
import Derived.Maps.Own
namespace Go.Proofs.Ytmoaabjiokjjlaa
open Go.RowKit Go.Maps Go.WideShapes
set_option linter.unusedVariables false
set_option linter.unusedSimpArgs false

def bkN (l : List UInt8) : ByteArray := ⟨l.toArray⟩
theorem bkN_list (l : List UInt8) : (bkN l).data.toList = l := by simp [bkN]
theorem bkN_of (s : ByteArray) : bkN s.data.toList = s := by cases s; simp [bkN]
theorem bkN_size (l : List UInt8) : (bkN l).size = l.length := by show l.toArray.size = _; simp
theorem bkN_inj {a b : List UInt8} : bkN a = bkN b ↔ a = b := ⟨fun h => by rw [← bkN_list a, h, bkN_list], fun h => by rw [h]⟩

/-! ### maps from names to files -/
/-- An element of a map of pointers: the block that it points at. -/
def ptrElem (v : Value) : Option (DataW Unit × List MemPlace) :=
  match v with
  | .pointer (some ⟨b, 0, none⟩) => some (.lit (.int .i64 (b : Int)), [])
  | _ => none
def ptrV (g : Nat) : Value := .pointer (some ⟨g, 0, none⟩)
theorem ptrElem_mk (g : Nat) : ptrElem (ptrV g) = some (.lit (.int .i64 (g : Int)), []) := rfl
theorem ptrElem_inv {v : Value} {y : DataW Unit × List MemPlace} (h : ptrElem v = some y) : ∃ g, v = ptrV g ∧ y = (.lit (.int .i64 (g : Int)), []) := by
  unfold ptrElem at h
  split at h
  · rename_i b
    injection h with h
    exact ⟨b, rfl, h.symm⟩
  · cases h
def pairD (fb : Nat → Nat) (p : Nm × Nat) : Lit × DataW Unit := (.string p.1, .lit (.int .i64 (fb p.2 : Int)))
def dataN (fb : Nat → Nat) (l : Ns) : DataW Unit := .map (l.map (pairD fb))
theorem dataN_ins (fb : Nat → Nat) (x : Nm × Nat) : ∀ l : Ns, DataW.insert (pairD fb x) (l.map (pairD fb)) = (insN x l).map (pairD fb)
  | [] => rfl
  | y :: r => by
    show (if (Lit.string x.1).before (Lit.string y.1) then _ else _) = _
    rw [show (Lit.string x.1).before (Lit.string y.1) = bytesBefore x.1 y.1 from rfl]
    unfold insN
    split
    · rfl
    · rw [List.map_cons, ← dataN_ins fb x r]
theorem dataN_fil (fb : Nat → Nat) (s : Nm) : ∀ l : Ns, (l.map (pairD fb)).filter (fun p => !p.1.sameKey (.string s)) = (delN l s).map (pairD fb)
  | [] => rfl
  | y :: r => by
    have ih := dataN_fil fb s r
    unfold delN at ih ⊢
    rw [List.map_cons, List.filter_cons, List.filter_cons, ih]
    have : (pairD fb y).1.sameKey (.string s) = (y.1 == s) := rfl
    rw [this]
    split <;> rfl
theorem dataN_put (fb : Nat → Nat) (l : Ns) (s : Nm) (f : Nat) : (dataN fb l).put (.string s) (.lit (.int .i64 (fb f : Int))) = dataN fb (putN l s f) := by
  show DataW.map (DataW.insert (Lit.string s, _) ((l.map (pairD fb)).filter fun p => !p.1.sameKey (.string s))) = _
  rw [dataN_fil]
  exact congrArg DataW.map (dataN_ins fb (s, f) (delN l s))
theorem dataN_del (fb : Nat → Nat) (l : Ns) (s : Nm) : (dataN fb l).del (.string s) = dataN fb (delN l s) := by
  show DataW.map ((l.map (pairD fb)).filter fun p => !p.1.sameKey (.string s)) = _
  rw [dataN_fil]
  rfl
theorem dataN_at (fb : Nat → Nat) (s : Nm) (z : DataW Unit) : ∀ l : Ns, (dataN fb l).atKey (.string s) z = match getN l s with | none => z | some i => .lit (.int .i64 (fb i : Int))
  | [] => rfl
  | y :: r => by
    have ih := dataN_at fb s z r
    have e1 : (dataN fb (y :: r)).atKey (.string s) z = if (y.1 == s) = true then .lit (.int .i64 (fb y.2 : Int)) else (dataN fb r).atKey (.string s) z := by
      unfold dataN
      simp only [DataW.atKey, List.map_cons, List.find?_cons]
      have : (pairD fb y).1.sameKey (.string s) = (y.1 == s) := rfl
      rw [this]
      cases hy : (y.1 == s) <;> rfl
    rw [e1, ih]
    unfold getN
    rw [List.find?_cons]
    cases hy : (y.1 == s) <;> rfl
theorem dataN_congr {fb fb' : Nat → Nat} {l : Ns} (h : ∀ p ∈ l, fb p.2 = fb' p.2) : dataN fb l = dataN fb' l := by
  unfold dataN
  congr 1
  refine List.map_congr_left fun p hp => ?_
  unfold pairD
  rw [h p hp]
/-- The map in block g has these names, each its file's block. -/
def MapN (w : World) (g : Nat) (fb : Nat → Nat) (l : Ns) : Prop := w.ownsMap Try.prog 9 ptrElem g l.length (dataN fb l)
theorem strK : Maps.Keyed Try.prog 9 := Maps.string_keyed Try.underlying9
theorem strK_key (s : ByteArray) (h : s.size ≤ 9223372036854775807) : keyOf Try.prog 9 (.string s) = some (.string s.data.toList) := WideMaps.keyOf_string_mk Try.underlying9 (s := s) (by unfold maxLen; omega)
theorem ptr_zero (w : World) : (zeroValue 63).run Try.prog w = .ok (.pointer none) w := Try.zeroValue63 w
section
variable {w w' : World} {g : Nat} {fb fb' : Nat → Nat} {l : Ns}
theorem MapN.lt (h : MapN w g fb l) : g < w.heap.size := World.ownsMap.lt h
theorem MapN.same (h : MapN w g fb l) (hw : w'.heap[g]? = w.heap[g]?) : MapN w' g fb l := by
  obtain ⟨es, clock, hb, F, hs, hD⟩ := h
  exact ⟨es, clock, hw.trans hb, F, hs, hD⟩
theorem MapN.chg {S : Nat → Prop} (h : MapN w g fb l) (hc : Chg S w w') (hn : ¬ S g) : MapN w' g fb l := h.same (hc.block g h.lt hn)
theorem MapN.below (h : MapN w g fb l) {B : Nat} (hb : Below B w w') (hg : g < B) : MapN w' g fb l := h.same (hb.block g hg)
theorem MapN.congr (h : MapN w g fb l) (hf : ∀ p ∈ l, fb p.2 = fb' p.2) : MapN w g fb' l := by
  unfold MapN at h ⊢
  rw [← dataN_congr hf]; exact h
theorem MapN.tight {n : Nat} (h : w.ownsMap Try.prog 9 ptrElem g n (dataN fb l)) : MapN w g fb l := by
  obtain ⟨es, clock, hb, F, hs, hD⟩ := h
  refine ⟨es, clock, hb, F, ?_, hD⟩
  have h1 := congrArg (fun D : DataW Unit => match D with | .map x => x.length | _ => 0) hD
  simp only [dataN] at h1
  rw [List.length_map, length_sorted] at h1
  simp at h1
  omega
theorem MapN.new (w : World) (fb : Nat → Nat) : MapN (w.alloc (.map #[] 0)) w.heap.size fb [] := World.ownsMap_made w _ _ _
def optV (fb : Nat → Nat) : Option Nat → Value
  | none => .pointer none
  | some i => ptrV (fb i)
theorem MapN.look (h : MapN w g fb l) (s : ByteArray) (hs : s.size ≤ 9223372036854775807) :
    (Instr.lookup 58 (.map (some g)) (.string s) false).run Try.prog w = .ok (optV fb (getN l s.data.toList)) w := by
  obtain ⟨es, clock, hb, F, _, hD⟩ := h
  rcases Maps.fit_look (e := 63) false strK Try.underlying58 (ptr_zero w) hb F (strK_key s hs) with ⟨hrun, _, hat⟩ | ⟨e0, y, _, _, hrun, hRv, hat, _⟩
  · rw [hrun]
    have h1 := hat .nil
    rw [← hD, dataN_at] at h1
    cases hg : getN l s.data.toList with
    | none => rfl
    | some i => rw [hg] at h1; cases h1
  · rw [hrun]
    have h1 := hat .nil
    rw [← hD, dataN_at] at h1
    obtain ⟨b, hv, hy⟩ := ptrElem_inv hRv
    cases hg : getN l s.data.toList with
    | none => rw [hg, hy] at h1; cases h1
    | some i =>
      rw [hg, hy] at h1
      have h2 : ((fb i : Nat) : Int) = b := congrArg (fun d : DataW Unit => match d with | .lit (.int _ n) => n | _ => 0) h1
      have h3 : fb i = b := by exact_mod_cast h2
      show Result.ok e0.val w = .ok (ptrV (fb i)) w
      rw [h3, hv]
theorem MapN.put (h : MapN w g fb l) (hn : l.length < 9223372036854775807) (s : ByteArray) (hs : s.size ≤ 9223372036854775807) (f : Nat) :
    ∃ w', (Instr.mapUpdate 58 (.map (some g)) (.string s) (ptrV (fb f))).run Try.prog w = .ok () w' ∧ MapN w' g fb (putN l s.data.toList f) ∧ w.grownBy w' (some g) := by
  obtain ⟨w', hrun, h1, h2⟩ := World.ownsMap.update (e := 63) h strK Try.underlying58 (by unfold maxLen; omega) (strK_key s hs) (ptrElem_mk (fb f))
  rw [dataN_put] at h1
  exact ⟨w', hrun, MapN.tight h1, h2⟩
theorem MapN.del {ty : TypeId} (h : MapN w g fb l) (s : ByteArray) (hs : s.size ≤ 9223372036854775807) :
    ∃ w', (Builtin.delete_ #[58, 9] ty #[.map (some g), .string s]).run Try.prog w = .ok (.tuple #[]) w' ∧ MapN w' g fb (delN l s.data.toList) ∧ w.grownBy w' (some g) := by
  obtain ⟨es, clock, hb, F, hs', hD⟩ := h
  obtain ⟨es', hrun, F', _, hdel, _⟩ := Maps.fit_drop (ty := ty) (e := 63) strK Try.underlying58 hb F (strK_key s hs)
  refine ⟨_, hrun, MapN.tight (n := es'.size) ⟨es', clock, ChangeMaps.heap_setBlock_same hb _, F', Nat.le_refl _, ?_⟩, ⟨rfl, rfl, rfl, by simp [ChangeMaps.setBlock], fun i _ hi => ChangeMaps.heap_setBlock_other hb _ (fun e => hi (by rw [e]))⟩⟩
  rw [← dataN_del, hD, hdel]
  rfl
end

/-! ### a file system -/
/-- Where its parts lie. lv: the files that have a place. -/
structure Pl where
  p : Nat
  mn : Nat
  ml : Nat
  vc : Value
  fb : Nat → Nat
  fv : Nat → Value
  lv : Nat → Prop
def fsF (q : Pl) (S : Fs) (i : Nat) : Value :=
  if i = 0 then .int .i64 S.quota else if i = 1 then .map (some q.mn) else if i = 2 then .map (some q.ml) else if i = 3 then q.vc else if i = 4 then .int .i64 S.fuse else .bool S.dead
def flF (v : Value) (x : Fl) (i : Nat) : Value := if i = 0 then v else .int .i64 (x.s : Int)
def chV (fb : Nat → Nat) : Ch → Value
  | .create n f => .iface 68 (.agg #[.string (bkN n), ptrV (fb f)])
  | .rename a b _ => .iface 80 (.agg #[.string (bkN a), .string (bkN b)])
  | .remove n => .iface 82 (.agg #[.string (bkN n)])
structure FlAt (w : World) (g : Nat) (v : Value) (x : Fl) : Prop where
  cel : Cel w g 66 2 (flF v x)
  own : OwnS w 0 5 1 v x.b.length (x.b.map (Value.int .u8))
/-- The file that a change holds. -/
def chId : Ch → Option Nat
  | .create _ f => some f
  | _ => none
def Nms : Ch → Prop
  | .create n _ => n.length ≤ 200
  | .rename a b _ => a.length ≤ 200 ∧ b.length ≤ 200
  | .remove n => n.length ≤ 200
/-- What belongs to it. -/
structure Pl.In (q : Pl) (F : Nat → Prop) : Prop where
  p : F q.p
  mn : F q.mn
  ml : F q.ml
  vc : ∀ k, q.vc.ownBlock = some k → F k
  fb : ∀ i, q.lv i → F (q.fb i)
  fv : ∀ i k, q.lv i → (q.fv i).ownBlock = some k → F k
structure FsAt (w : World) (F : Nat → Prop) (q : Pl) (S : Fs) : Prop where
  cel : Cel w q.p 61 6 (fsF q S)
  now : MapN w q.mn q.fb S.now
  last : MapN w q.ml q.fb S.last
  wait : OwnS w 0 73 1 q.vc S.wait.length (S.wait.map (chV q.fb))
  file : ∀ i, q.lv i → ∃ x, S.files[i]? = some x ∧ FlAt w (q.fb i) (q.fv i) x
  inj : ∀ i j, q.lv i → q.lv j → q.fb i = q.fb j → i = j
  rows : ∀ i j k, q.lv i → q.lv j → (q.fv i).ownBlock = some k → (q.fv j).ownBlock = some k → i = j
  maps : q.mn ≠ q.ml
  lvl : ∀ p ∈ S.last, q.lv p.2
  lvw : ∀ c ∈ S.wait, ∀ i, chId c = some i → q.lv i
  nms : ∀ c ∈ S.wait, Nms c
  mem : q.In F
section
variable {w w' : World} {F F' : Nat → Prop} {q : Pl} {S : Fs} {N M : Nat}
theorem FlAt.same {g : Nat} {v : Value} {x : Fl} (h : FlAt w g v x) (hg : w'.heap[g]? = w.heap[g]?) (hv : ∀ k, v.ownBlock = some k → w'.heap[k]? = w.heap[k]?) : FlAt w' g v x := ⟨h.cel.same hg, h.own.heap hv⟩
theorem Pl.In.mono (h : q.In F) (hF : ∀ k, F k → F' k) : q.In F' := ⟨hF _ h.p, hF _ h.mn, hF _ h.ml, fun k hk => hF k (h.vc k hk), fun i hi => hF _ (h.fb i hi), fun i k hi hk => hF k (h.fv i k hi hk)⟩
theorem FsAt.mono (h : FsAt w F q S) (hF : ∀ k, F k → F' k) : FsAt w F' q S :=
  ⟨h.cel, h.now, h.last, h.wait, h.file, h.inj, h.rows, h.maps, h.lvl, h.lvw, h.nms, h.mem.mono hF⟩
theorem FsAt.bound (h : FsAt w F q S) : FsAt w (fun k => F k ∧ k < w.heap.size) q S := by
  refine ⟨h.cel, h.now, h.last, h.wait, h.file, h.inj, h.rows, h.maps, h.lvl, h.lvw, h.nms, ⟨⟨h.mem.p, h.cel.blk⟩, ⟨h.mem.mn, h.now.lt⟩, ⟨h.mem.ml, h.last.lt⟩, fun k hk => ⟨h.mem.vc k hk, (h.wait.lt k hk).2⟩, fun i hi => ?_, fun i k hi hk => ?_⟩⟩
  · obtain ⟨x, _, hx⟩ := h.file i hi
    exact ⟨h.mem.fb i hi, hx.cel.blk⟩
  · obtain ⟨x, _, hx⟩ := h.file i hi
    exact ⟨h.mem.fv i k hi hk, (hx.own.lt k hk).2⟩
/-- What changes nothing of it leaves it. -/
theorem FsAt.same (h : FsAt w F q S) (hw : ∀ k, F k → k < w.heap.size → w'.heap[k]? = w.heap[k]?) : FsAt w' F q S := by
  refine ⟨h.cel.same (hw _ h.mem.p h.cel.blk), h.now.same (hw _ h.mem.mn h.now.lt), h.last.same (hw _ h.mem.ml h.last.lt), h.wait.heap fun k hk => hw k (h.mem.vc k hk) (h.wait.lt k hk).2, fun i hi => ?_, h.inj, h.rows, h.maps, h.lvl, h.lvw, h.nms, h.mem⟩
  obtain ⟨x, hx, hf⟩ := h.file i hi
  exact ⟨x, hx, hf.same (hw _ (h.mem.fb i hi) hf.cel.blk) fun k hk => hw k (h.mem.fv i k hi hk) (hf.own.lt k hk).2⟩
theorem FsAt.chg {C : Nat → Prop} (h : FsAt w F q S) (hc : Chg C w w') (hn : ∀ k, F k → k < w.heap.size → ¬ C k) : FsAt w' F q S := h.same fun k hk hl => hc.block k hl (hn k hk hl)
theorem FsAt.below (h : FsAt w F q S) (hb : Below w.heap.size w w') : FsAt w' F q S := h.same fun k _ hl => hb.block k hl
theorem FsAt.alloc (h : FsAt w F q S) (o : Obj) : FsAt (w.alloc o) F q S := h.same fun k _ hl => heap_alloc_old w o hl
theorem lv_apply {l : Ns} {c : Ch} {n : Nat} {Pr : Nat → Prop} (hu : Up l) (hc : okC n l c) (h : ∀ p ∈ l, Pr p.2) (hi : ∀ i, chId c = some i → Pr i) : ∀ p ∈ applyC l c, Pr p.2 := by
  intro p hp
  cases c with
  | create m f =>
    rcases putN_mem.1 hp with rfl | ⟨h1, _⟩
    · exact hi f rfl
    · exact h p h1
  | rename a b f =>
    rcases putN_mem.1 (delN_mem.1 hp).1 with rfl | ⟨h1, _⟩
    · exact h (a, f) ((getN_some hu).1 hc.1)
    · exact h p h1
  | remove m => exact h p (delN_mem.1 hp).1
theorem lv_repl {n : Nat} {Pr : Nat → Prop} : ∀ {W : List Ch} {l : Ns}, Up l → okW n l W → (∀ p ∈ l, Pr p.2) → (∀ c ∈ W, ∀ i, chId c = some i → Pr i) → ∀ p ∈ repl l W, Pr p.2
  | [], _, _, _, h, _ => h
  | c :: W, l, hu, hW, h, hi => lv_repl (W := W) (l := applyC l c) (applyC_up hu c) hW.2 (lv_apply hu hW.1 h (hi c (by simp))) (fun d hd => hi d (by simp [hd]))
theorem FsAt.lvn (h : FsAt w F q S) (hI : Inv N M S) : ∀ p ∈ S.now, q.lv p.2 := by rw [hI.now]; exact lv_repl hI.up hI.ok h.lvl h.lvw
theorem FsAt.get (h : FsAt w F q S) (hI : Inv N M S) {n : Nm} {i : Nat} (hg : getN S.now n = some i) : q.lv i := h.lvn hI _ ((getN_some hI.upNow).1 hg)
/-- Cells of the struct. -/
theorem FsAt.c0 (h : FsAt w F q S) : w.cell? ⟨q.p, 0, none⟩ = some (.int .i64 S.quota) := h.cel.cell 0 (by decide)
theorem FsAt.c1 (h : FsAt w F q S) : w.cell? ⟨q.p, 1, none⟩ = some (.map (some q.mn)) := h.cel.cell 1 (by decide)
theorem FsAt.c2 (h : FsAt w F q S) : w.cell? ⟨q.p, 2, none⟩ = some (.map (some q.ml)) := h.cel.cell 2 (by decide)
theorem FsAt.c3 (h : FsAt w F q S) : w.cell? ⟨q.p, 3, none⟩ = some q.vc := h.cel.cell 3 (by decide)
theorem FsAt.c4 (h : FsAt w F q S) : w.cell? ⟨q.p, 4, none⟩ = some (.int .i64 S.fuse) := h.cel.cell 4 (by decide)
theorem FsAt.c5 (h : FsAt w F q S) : w.cell? ⟨q.p, 5, none⟩ = some (.bool S.dead) := h.cel.cell 5 (by decide)
theorem FsAt.fz (h : FsAt w F q S) (i : Nat) : w.frozen? ⟨q.p, i, none⟩ = false := h.cel.frozen i
/-- What a call that changes it leaves. -/
def FsTo (F : Nat → Prop) (p : Nat) (w : World) (S' : Fs) (w' : World) : Prop :=
  ∃ q', FsAt w' (fun k => F k ∨ w.heap.size ≤ k) q' S' ∧ q'.p = p ∧ Chg F w w'
theorem FsTo.refl (h : FsAt w F q S) : FsTo F q.p w S w := ⟨q, h.mono fun k hk => .inl hk, rfl, Chg.refl _ _⟩
end
end Go.Proofs.Ytmoaabjiokjjlaa
