/- append onto a slice of the call's own that may begin anywhere in its block, whatever is appended: one law. -/
import Derived.Test.YtmoaabjiokjjlaaLib
import Derived.Deep.AppendLies
import Derived.Deep.RegionLaw
import Derived.Deep.DeepCutAuto
namespace Go.Proofs.Ytmoaabjiokjjlaa
open Go.RowKit

/-- The slice value v, of n elements of type e ('size' cells each), owns the cells xs: it is nil, or it lies somewhere in a block from base on that is not frozen. -/
def OwnS (w : World) (base : Nat) (e : TypeId) (size : Nat) (v : Value) (n : Nat) (xs : List Value) : Prop :=
  xs.length = n * size ∧
  ((v = .slice none 0 0 ∧ n = 0) ∨
   ∃ g off cap cur, v = .slice (some ⟨g, off, none⟩) n cap ∧ base ≤ g ∧ (∃ fr, w.heap[g]? = some (.cells cur e fr) ∧ (fr.2 ≤ fr.1 ∨ cur.size ≤ fr.1)) ∧ n ≤ cap ∧ cap ≤ maxLen ∧ off + cap * size ≤ cur.size ∧ (cur.toList.drop off).take (n * size) = xs)

/-- What is appended: a value that reads as m elements, the cells news. -/
structure Src (P : Program) (w : World) (size : Nat) (x : Value) (m : Nat) (news : List Value) : Prop where
  len : news.length = m * size
  one : ∀ u ∈ news, u.oneCell' = true
  run : ∀ w' : World, w'.heap = w.heap → (Builtin.lenOf x).run P w' = .ok m w' ∧ (Builtin.firstCells size m x).run P w' = .ok news.toArray w'

theorem run_storeCells_open (P : Program) (g o : Nat) (t : TypeId) (fz : Nat × Nat) : ∀ (vs : List Value) (i : Nat) (cur : Array Value) (w : World), w.heap[g]? = some (.cells cur t fz) → (fz.2 ≤ fz.1 ∨ cur.size ≤ fz.1) → o + i + vs.length ≤ cur.size → (∀ v ∈ vs, v.oneCell' = true) →
    (storeCells ⟨g, o, none⟩ vs i).run P w = .ok () (w.setRow g (cur.toList.take (o + i) ++ vs ++ cur.toList.drop (o + i + vs.length)).toArray)
  | [], i, cur, w, hg, _, _, _ => by
    simp only [storeCells, List.append_nil, List.length_nil, Nat.add_zero, List.take_append_drop, Array.toArray_toList]
    rw [setRow_self w g cur t fz hg]
    rfl
  | v :: rest, i, cur, w, hg, hfz, hl, h1 => by
    have hi : o + i < cur.size := by simp at hl; omega
    have hadd : (⟨g, o, none⟩ : Addr).add i = ⟨g, o + i, none⟩ := by unfold Addr.add; split <;> simp_all
    have hcell : w.cell? ⟨g, o + i, none⟩ = some cur[o + i] := by simp [World.cell?, hg, hi]
    have hfro : w.frozen? ⟨g, o + i, none⟩ = false := by
      obtain ⟨lo, hi'⟩ := fz
      simp only at hfz
      simp only [World.frozen?, hg, Bool.and_eq_false_iff, decide_eq_false_iff_not]
      omega
    have hst : (store ((⟨g, o, none⟩ : Addr).add i) v).run P w = .ok () (w.setRow g (cur.setIfInBounds (o + i) v)) := by
      rw [hadd, run_store P w _ v _ (h1 v (by simp)), hcell]
      simp [hfro, setCell_eq_setRow w g (o + i) cur t fz v hg]
    have ih := run_storeCells_open P g o t fz rest (i + 1) (cur.setIfInBounds (o + i) v) (w.setRow g (cur.setIfInBounds (o + i) v)) (setRow_heap w g cur _ t _ hg) (by simpa using hfz) (by simp at hl ⊢; omega) (fun x hx => h1 x (by simp [hx]))
    simp only [storeCells, Sem.run_bind, hst, Result.andThen_ok, ih, setRow_setRow]
    congr 3
    have e := list_seg_step cur.toList (o + i) v rest (by simp at hl ⊢; omega)
    simpa [Array.toList_setIfInBounds, Nat.add_assoc] using e

section
variable {P : Program} {w w' : World} {base size n m : Nat} {e : TypeId} {v x : Value} {xs news : List Value}

theorem OwnS.of_row (h : w.ownsRow base e size v n xs) : OwnS w base e size v n xs := by
  refine ⟨h.1, ?_⟩
  rcases h.2 with h' | ⟨g, cap, cur, h1, h2, h3, h4, h5, h6, h7⟩
  · exact .inl h'
  · exact .inr ⟨g, 0, cap, cur, h1, h2, ⟨_, h3, .inl (Nat.le_refl _)⟩, h4, h5, by omega, by simpa using h7⟩
theorem OwnS.nil (w : World) (base : Nat) (e : TypeId) (size : Nat) : OwnS w base e size (.slice none 0 0) 0 [] := ⟨by simp, .inl ⟨rfl, rfl⟩⟩
theorem OwnS.shape (h : OwnS w base e size v n xs) : ∃ A c, v = .slice A n c := by
  rcases h.2 with ⟨rfl, rfl⟩ | ⟨g, off, cap, cur, rfl, _⟩
  · exact ⟨_, _, rfl⟩
  · exact ⟨_, _, rfl⟩
theorem OwnS.lt (h : OwnS w base e size v n xs) : ∀ k, v.ownBlock = some k → base ≤ k ∧ k < w.heap.size := by
  intro k hk
  rcases h.2 with ⟨rfl, _⟩ | ⟨g, off, cap, cur, rfl, hb, ⟨_, hg, _⟩, _⟩
  · simp [Value.ownBlock] at hk
  · simp [Value.ownBlock] at hk
    subst hk
    exact ⟨hb, (Array.getElem?_eq_some_iff.1 hg).1⟩
theorem OwnS.heap (h : OwnS w base e size v n xs) (hk : ∀ k, v.ownBlock = some k → w'.heap[k]? = w.heap[k]?) : OwnS w' base e size v n xs := by
  refine ⟨h.1, ?_⟩
  rcases h.2 with hn | ⟨g, off, cap, cur, rfl, hb, ⟨fr, hgg, hfr⟩, rest⟩
  · exact .inl hn
  · exact .inr ⟨g, off, cap, cur, rfl, hb, ⟨fr, by rw [hk g rfl]; exact hgg, hfr⟩, rest⟩
theorem OwnS.kept {row : Option Nat} (h : OwnS w base e size v n xs) (hg : w.grownBy w' row) (hne : v.ownBlock = none ∨ v.ownBlock ≠ row) : OwnS w' base e size v n xs :=
  h.heap fun k hk => hg.block k (h.lt k hk).2 (by rw [← hk]; rcases hne with h' | h'; rw [h'] at hk; cases hk; exact h')
theorem OwnS.alloc (h : OwnS w base e size v n xs) (o : Obj) : OwnS (w.alloc o) base e size v n xs :=
  h.heap fun k hk => heap_alloc_old w o (h.lt k hk).2
theorem OwnS.drew (h : OwnS w base e size v n xs) : OwnS w.drew base e size v n xs := h.heap fun _ _ => rfl
theorem OwnS.setFar (h : OwnS w base e size v n xs) {a : Addr} (ha : v.ownBlock ≠ some a.block) (u : Value) : OwnS (w.setCell a u) base e size v n xs :=
  h.heap fun k hk => Below.heap_setCell _ _ _ _ (by rintro rfl; exact ha hk)
theorem OwnS.setLow (h : OwnS w base e size v n xs) {a : Addr} (ha : a.block < base) (u : Value) : OwnS (w.setCell a u) base e size v n xs :=
  h.setFar (fun h' => by have := h.lt _ h'; omega) u
theorem OwnS.base_ {base' : Nat} (h : OwnS w base e size v n xs) (hb : base' ≤ base) : OwnS w base' e size v n xs := by
  refine ⟨h.1, ?_⟩
  rcases h.2 with hn | ⟨g, off, cap, cur, rfl, hb', rest⟩
  · exact .inl hn
  · exact .inr ⟨g, off, cap, cur, rfl, by omega, rest⟩
/-- Its cells. -/
theorem OwnS.cells (h : OwnS w base e size v n xs) (hx : 0 < xs.length) : ∃ g off c, v = .slice (some ⟨g, off, none⟩) n c ∧ base ≤ g ∧ g < w.heap.size ∧ ∀ j, j < xs.length → w.cell? ⟨g, off + j, none⟩ = xs[j]? := by
  have hlen := h.1
  rcases h.2 with ⟨_, rfl⟩ | ⟨g, off, cap, cur, rfl, hb, hgg, hn, hm, hs, ht⟩
  · rw [hlen] at hx; simp at hx
  · obtain ⟨fr, hgg, _⟩ := hgg
    refine ⟨g, off, cap, rfl, hb, (Array.getElem?_eq_some_iff.1 hgg).1, fun j hj => ?_⟩
    rw [cell_of_row w g _ cur e fr hgg, ← ht, List.getElem?_take, if_pos (by omega), List.getElem?_drop]
    simp
/-- A part of it, 'v[k:]' (the address stays where nothing of the capacity is left). -/
theorem OwnS.drop1 {A : Option Addr} {c k : Nat} (h : OwnS w base e 1 (.slice A n c) n xs) (hk : k ≤ n) :
    OwnS w base e 1 (.slice (if c = k then A else A.map (·.add k)) (n - k) (c - k)) (n - k) (xs.drop k) := by
  have hl := h.1
  refine ⟨by rw [List.length_drop, hl]; omega, ?_⟩
  rcases h.2 with ⟨hv, rfl⟩ | ⟨g, off, cap, cur, hv, hb, hgg, hn, hm, hs, ht⟩
  · injection hv with hA _ hc
    subst hA; subst hc
    exact .inl ⟨by simp, by omega⟩
  · injection hv with hA _ hc
    subst hA; subst hc
    right
    by_cases hck : c = k
    · have hk0 : n - k = 0 := by omega
      refine ⟨g, off, c - k, cur, by simp [hck], hb, hgg, by omega, by omega, by omega, ?_⟩
      rw [hk0]
      simp
      rw [hl]; omega
    · refine ⟨g, off + k, c - k, cur, ?_, hb, hgg, by omega, by omega, by omega, ?_⟩
      · simp only [hck, if_false, Option.map_some]
        congr 2
        unfold Addr.add; split <;> simp_all
      · rw [← List.drop_drop, ← ht, List.drop_take]
        congr 1
        omega

theorem Src.vals {A : Option Addr} {c : Nat} (hl : news.length = m * size) (h1 : ∀ u ∈ news, u.oneCell' = true)
    (hc : 0 < news.length → ∃ ad, A = some ad ∧ ∀ j u, news[j]? = some u → w.cell? (ad.add j) = some u) : Src P w size (.slice A m c) m news := by
  refine ⟨hl, h1, fun w' hw => ⟨by simp [Builtin.lenOf], ?_⟩⟩
  cases A with
  | none =>
    have : news = [] := by
      cases news with
      | nil => rfl
      | cons a r => obtain ⟨ad, h, _⟩ := hc (by simp); cases h
    subst this
    simp [Builtin.firstCells]
  | some ad =>
    refine run_firstCells_some (P := P) w' size m ad m c news hl (fun j u hj => ?_)
    obtain ⟨ad', h, hcell⟩ := hc (by have := (List.getElem?_eq_some_iff.1 hj).1; omega)
    injection h with h
    subst h
    rw [← hcell j u hj]
    exact World.cell?_of_block (by rw [hw])
theorem Src.ints {k : IntKind} {A : Option Addr} {c : Nat} {ys : List Int} (h : Ints k w A ys) : Src P w 1 (.slice A ys.length c) ys.length (ys.map (Value.int k)) := by
  refine Src.vals (by simp) (ints_oneCell k ys) (fun hl => ?_)
  obtain ⟨b, o, hA, _, hc⟩ := h (by simpa using hl)
  refine ⟨⟨b, o, none⟩, hA, fun j u hj => ?_⟩
  rw [List.getElem?_map] at hj
  obtain ⟨y, hy, rfl⟩ := Option.map_eq_some_iff.1 hj
  have hjl := (List.getElem?_eq_some_iff.1 hy).1
  rw [Addr.add_lit, hc j hjl]
  simp [List.getD_eq_getElem?_getD, hy]
theorem Src.one_new {u : Value} {t : TypeId} (h1 : u.oneCell' = true) : Src P (w.alloc (.cells #[u] t)) 1 (.slice (some ⟨w.heap.size, 0, none⟩) 1 1) 1 [u] :=
  Src.vals rfl (by simpa using h1) (fun _ => ⟨_, rfl, cell_one_new w u t⟩)
theorem Src.new {us : List Value} {cs : Array Value} {t : TypeId} (hu : cs.toList = us) (h1 : ∀ u ∈ us, u.oneCell' = true) : Src P (w.alloc (.cells cs t)) 1 (.slice (some ⟨w.heap.size, 0, none⟩) us.length us.length) us.length us :=
  Src.vals (by simp) h1 (fun _ => ⟨_, rfl, by subst hu; exact World.news_of_block (heap_alloc_new w _)⟩)
theorem Src.drew (h : Src P w size x m news) : Src P w.drew size x m news := ⟨h.1, h.2, fun w' hw => h.3 w' hw⟩
theorem Src.same (h : Src P w size x m news) (hw : w'.heap = w.heap) : Src P w' size x m news := ⟨h.1, h.2, fun w'' hw' => h.3 w'' (hw'.trans hw)⟩
theorem Src.str {s : ByteArray} : Src P w 1 (.string s) s.size (s.data.toList.map fun b => Value.int .u8 b.toNat) := by
  refine ⟨by simp, by simp [Value.oneCell'], fun w' _ => ⟨by simp [Builtin.lenOf], ?_⟩⟩
  have e : s.extract 0 s.size = s := by
    apply ByteArray.ext
    simp
  simp [Builtin.firstCells, e]
  rw [← List.map_toArray, Array.toArray_toList]

/-- The law. -/
theorem run_append_S (t tx ty : TypeId) (i : TypeInfo) (z : Value) (bytes : Nat) (u : TypeDesc) (ht : P.underlying t = some (.slice e)) (htx : P.underlying tx = some u) (hu : ∀ k, u ≠ .int k) (hi : P.info? e = some i) (hz : i.zero = some z)
    (hsize : i.size = size) (hby : i.bytes = bytes) (hzs : z.cells.size = size) (hown : OwnS w base e size v n xs) (hsrc : Src P w size x m news)
    (h63 : n + m ≤ maxLen) (hbytes : (n + m) * bytes ≤ 140737488355328) (hbase : base ≤ w.heap.size) :
    ∃ v' w', (Builtin.append_ #[t, tx] ty #[v, x]).run P w = .ok v' w' ∧ OwnS w' base e size v' (n + m) (xs ++ news) ∧ w.grownBy w' v.ownBlock ∧ (v'.ownBlock = v.ownBlock ∨ v'.ownBlock = some w.heap.size) := by
  subst hsize
  subst hby
  have hsmall : n + m ≤ 9223372036854775807 := by simp only [maxLen] at h63; omega
  have hl := hsrc.len
  have hlen : (xs ++ news).length = (n + m) * i.size := by rw [List.length_append, hown.1, hl, Nat.add_mul]
  obtain ⟨hr1, hr2⟩ := hsrc.run w rfl
  obtain ⟨hd1, hd2⟩ := hsrc.run w.drew rfl
  -- the arm that grows, whatever v is
  have grow : ∀ (A : Option Addr) (cap : Nat), v = .slice A n cap → cap < n + m → (Builtin.firstCells i.size n v).run P w.drew = .ok xs.toArray w.drew →
      ∃ v' w', (Builtin.append_ #[t, tx] ty #[v, x]).run P w = .ok v' w' ∧ OwnS w' base e i.size v' (n + m) (xs ++ news) ∧ w.grownBy w' v.ownBlock ∧ (v'.ownBlock = v.ownBlock ∨ v'.ownBlock = some w.heap.size) := by
    intro A cap hv hg hf
    have hn : ¬ (n + m ≤ cap) := by omega
    have h63' : ¬ (9223372036854775807 < ((n : Int) + (m : Int))) := by omega
    have h48 := growslice_fits hg hbytes
    have h48' : ¬ (281474976710656 < Builtin.nextslicecap (n + m) cap * i.bytes) := by omega
    have hge := grownCap_ge w (n + m) cap e
    have hcm : grownCap w (n + m) cap e ≤ maxLen := grownCap_le_maxLen w (n + m) cap e h63
    have hrun : (Builtin.append_ #[t, tx] ty #[v, x]).run P w = .ok (.slice (some ⟨w.heap.size, 0, none⟩) (n + m) (grownCap w (n + m) cap e))
        (w.drew.alloc (.cells (xs.toArray ++ news.toArray ++ Builtin.zeroCells z.cells (grownCap w (n + m) cap e - (n + m))) e)) := by
      subst hv
      simp [Builtin.append_, run_underlying ht, run_underlying htx, sizeOf, typeInfo, zeroValue, hi, hz, hr1, hn, h63', h48', Question.forced, hf, hd2, newRow, grownCap]
      congr 2
      apply Array.ext'
      simp [List.append_assoc]
    refine ⟨_, _, hrun, OwnS.of_row ⟨hlen, .inr ⟨w.heap.size, _, _, rfl, hbase, heap_alloc_new w.drew _, hge, hcm, ?_, ?_⟩⟩, ⟨rfl, rfl, rfl, by simp, fun k hk _ => heap_alloc_old w.drew _ hk⟩, .inr rfl⟩
    · simp only [Array.size_append, List.size_toArray, size_zeroCells, hzs, hown.1, hl, ← Nat.add_mul]
      congr 1
      omega
    · simp only [Array.toList_append, List.append_assoc]
      rw [← List.append_assoc, ← hlen]
      exact List.take_left
  rcases hown.2 with ⟨hv, hn0⟩ | ⟨g, off, cap, cur, hv, hbg, hg, hnc, hcm, hcs, htake⟩
  · subst hn0
    have hx : xs = [] := List.eq_nil_of_length_eq_zero (by simpa using hown.1)
    subst hx
    by_cases hm : m = 0
    · subst hm
      have hn : news = [] := List.eq_nil_of_length_eq_zero (by simpa using hl)
      subst hn
      subst hv
      refine ⟨.slice none 0 0, w, ?_, OwnS.nil w base e i.size, ⟨rfl, rfl, rfl, Nat.le_refl _, fun _ _ _ => rfl⟩, .inl rfl⟩
      simp [Builtin.append_, run_underlying ht, run_underlying htx, sizeOf, typeInfo, hi, hr1, hr2]
    · exact grow none 0 hv (by omega) (by subst hv; simp [Builtin.firstCells])
  · obtain ⟨fr, hg, hfr⟩ := hg
    by_cases hroom : n + m ≤ cap
    · have hfit : off + n * i.size + news.length ≤ cur.size := by
        rw [hl, Nat.add_assoc, ← Nat.add_mul]
        exact Nat.le_trans (Nat.add_le_add_left (Nat.mul_le_mul_right _ hroom) _) hcs
      have hst := run_storeCells_open P g (off + n * i.size) e fr news 0 cur w hg hfr (by simpa using hfit) hsrc.one
      simp only [Nat.add_zero] at hst
      have hrun : (Builtin.append_ #[t, tx] ty #[v, x]).run P w = .ok (.slice (some ⟨g, off, none⟩) (n + m) cap)
          (w.setRow g (cur.toList.take (off + n * i.size) ++ news ++ cur.toList.drop (off + n * i.size + news.length)).toArray) := by
        subst hv
        simp [Builtin.append_, run_underlying ht, run_underlying htx, sizeOf, typeInfo, hi, hr1, hr2, hroom, Addr.add_lit, hst]
      subst hv
      refine ⟨_, _, hrun, ⟨hlen, .inr ⟨g, off, cap, _, rfl, hbg, ⟨fr, setRow_heap w g cur _ e _ hg, ?_⟩, hroom, hcm, ?_, ?_⟩⟩, ⟨rfl, rfl, rfl, by simp, fun k _ hk => setRow_other w g k _ (fun e => hk (by simp [Value.ownBlock, e]))⟩, .inl rfl⟩
      · simp only [List.size_toArray, List.length_append, List.length_take, List.length_drop, Array.length_toList]
        omega
      · simp only [List.size_toArray, List.length_append, List.length_take, List.length_drop, Array.length_toList]
        omega
      · have hxl := hown.1
        have h1 : ((cur.toList.take (off + n * i.size) ++ news ++ cur.toList.drop (off + n * i.size + news.length)).toArray.toList.drop off) = (xs ++ news) ++ cur.toList.drop (off + n * i.size + news.length) := by
          simp only [List.append_assoc]
          rw [List.drop_append_of_le_length (by simp; omega), ← htake, List.drop_take]
          congr 2
          omega
        rw [h1, ← hlen]
        exact List.take_left
    · refine grow (some ⟨g, off, none⟩) cap hv (by omega) ?_
      subst hv
      refine run_firstCells_some (P := P) w.drew i.size n ⟨g, off, none⟩ n cap xs hown.1 (fun j y hj => ?_)
      have hjl := (List.getElem?_eq_some_iff.1 hj).1
      obtain ⟨g', off', c', hv', _, _, hc⟩ := hown.cells (by omega)
      injection hv' with hA _ _
      injection hA with hA
      injection hA with h1 h2 _
      subst h1; subst h2
      rw [Addr.add_lit, World.cell?_drew, hc j hjl, hj]

theorem wp_append_S {o : Oper} {a : Act} {K : Act → World → Prop} {Q : Exit → Act → World → Prop} (s y : Operand) (t tx : TypeId)
    (ho : o.op = .call { callee := .builtin .append, args := #[s, y], argTypes := #[t, tx] })
    (i : TypeInfo) (z : Value) (bytes : Nat) (u : TypeDesc) (ht : P.underlying t = some (.slice e)) (htx : P.underlying tx = some u) (hu : ∀ k, u ≠ .int k) (hi : P.info? e = some i) (hz : i.zero = some z)
    (hsize : i.size = size) (hby : i.bytes = bytes) (hzs : z.cells.size = size) (hs : a.eval s = v) (hy : a.eval y = x) (hown : OwnS w base e size v n xs) (hsrc : Src P w size x m news)
    (h63 : n + m ≤ maxLen) (hbytes : (n + m) * bytes ≤ 140737488355328) (hbase : base ≤ w.heap.size)
    (h : ∀ A c w', OwnS w' base e size (.slice A (n + m) c) (n + m) (xs ++ news) → w.grownBy w' v.ownBlock → ((Value.slice A (n + m) c).ownBlock = v.ownBlock ∨ (Value.slice A (n + m) c).ownBlock = some w.heap.size) → K (a.put o.dst (.slice A (n + m) c)) w') : o.wp P a w K Q := by
  obtain ⟨v', w', hr, h2, h3, h4⟩ := run_append_S (P := P) (w := w) t tx o.type i z bytes u ht htx hu hi hz hsize hby hzs hown hsrc h63 hbytes hbase
  obtain ⟨A, c, rfl⟩ := h2.shape
  unfold Oper.wp execOp
  simp only [ho, resolve, invoke, builtin, Sem.run_bind, Sem.run_pure, Result.andThen_ok, List.map_toArray, List.map_cons, List.map_nil, hs, hy, hr]
  exact h A c w' h2 h3 h4
theorem wpList_append_S {ops : Array Oper} {rest : List Oper} {o : Oper} {a : Act} {Q : Exit → Act → World → Prop} (hgd : o.guard = none) (s y : Operand) (t tx : TypeId)
    (ho : o.op = .call { callee := .builtin .append, args := #[s, y], argTypes := #[t, tx] })
    (i : TypeInfo) (z : Value) (bytes : Nat) (u : TypeDesc) (ht : P.underlying t = some (.slice e)) (htx : P.underlying tx = some u) (hu : ∀ k, u ≠ .int k) (hi : P.info? e = some i) (hz : i.zero = some z)
    (hsize : i.size = size) (hby : i.bytes = bytes) (hzs : z.cells.size = size) (hs : a.eval s = v) (hy : a.eval y = x) (hown : OwnS w base e size v n xs) (hsrc : Src P w size x m news)
    (h63 : n + m ≤ maxLen) (hbytes : (n + m) * bytes ≤ 140737488355328) (hbase : base ≤ w.heap.size)
    (h : ∀ A c w', OwnS w' base e size (.slice A (n + m) c) (n + m) (xs ++ news) → w.grownBy w' v.ownBlock → ((Value.slice A (n + m) c).ownBlock = v.ownBlock ∨ (Value.slice A (n + m) c).ownBlock = some w.heap.size) → wpList P ops Q rest (a.put o.dst (.slice A (n + m) c)) w') :
    wpList P ops Q (o :: rest) a w :=
  wpList_plain hgd fun _ hK => wp_append_S s y t tx ho i z bytes u ht htx hu hi hz hsize hby hzs hs hy hown hsrc h63 hbytes hbase fun A c w' h2 h3 h4 => hK _ _ (h A c w' h2 h3 h4)
theorem step_append_S {ops : Array Oper} {o : Oper} {a : Act} {K : Act → World → Prop} {Q : Exit → Act → World → Prop} {E : Prop} (hgd : o.guard = none) (s y : Operand) (t tx : TypeId)
    (ho : o.op = .call { callee := .builtin .append, args := #[s, y], argTypes := #[t, tx] })
    (i : TypeInfo) (z : Value) (bytes : Nat) (u : TypeDesc) (ht : P.underlying t = some (.slice e)) (htx : P.underlying tx = some u) (hu : ∀ k, u ≠ .int k) (hi : P.info? e = some i) (hz : i.zero = some z)
    (hsize : i.size = size) (hby : i.bytes = bytes) (hzs : z.cells.size = size) (hs : a.eval s = v) (hy : a.eval y = x) (hown : OwnS w base e size v n xs) (hsrc : Src P w size x m news)
    (h63 : n + m ≤ maxLen) (hbytes : (n + m) * bytes ≤ 140737488355328) (hbase : base ≤ w.heap.size)
    (h : ∀ A c w', OwnS w' base e size (.slice A (n + m) c) (n + m) (xs ++ news) → w.grownBy w' v.ownBlock → ((Value.slice A (n + m) c).ownBlock = v.ownBlock ∨ (Value.slice A (n + m) c).ownBlock = some w.heap.size) → K (a.put o.dst (.slice A (n + m) c)) w') :
    if Region.wanted o (yielded ops a.tmps) = true then Oper.wp P o a w K Q else E := by
  have hw : Region.wanted o (yielded ops a.tmps) = true := by simp [Region.wanted, hgd]
  rw [if_pos hw]
  exact wp_append_S s y t tx ho i z bytes u ht htx hu hi hz hsize hby hzs hs hy hown hsrc h63 hbytes hbase h
end
end Go.Proofs.Ytmoaabjiokjjlaa
