/- Copy walked (printed by genfsd.py out of XFsCd.src). -/
import Derived.Test.YtmoaabjiokjjlaaFsCc
namespace Go.Proofs.Ytmoaabjiokjjlaa
open Go.RowKit Go.Maps
set_option linter.unusedVariables false
set_option linter.unusedSimpArgs false

/-- What Copy answers. -/
def CopyPost (S : Fs) (w : World) (e : Ending) (w' : World) : Prop := ∃ p', e = .returned (.pointer (some ⟨p', 0, none⟩)) ∧ FsIn (fun k => w.heap.size ≤ k) p' w' S ∧ Below w.heap.size w w'
theorem cp_begin (w : World) (F : Nat → Prop) (q : Pl) (S : Fs) :
    CpSt w (((((w.alloc (.cells #[.int .i64 S.quota, .map (some (w.heap.size + 1 + 1 + 1)), .map (some (w.heap.size + 1 + 1 + 1 + 1)), .slice none 0 0, .int .i64 S.fuse, .bool S.dead] 61)).alloc (.map #[] 0)).alloc (.cells #[.map (some (w.heap.size + 1))] 83)).alloc (.map #[] 0)).alloc (.map #[] 0))
      (w.heap.size + 1 + 1 + 1 + 1 + 1) w.heap.size (w.heap.size + 1) (w.heap.size + 1 + 1) (w.heap.size + 1 + 1 + 1) (w.heap.size + 1 + 1 + 1 + 1) q S [] (fun _ => 0) (fun _ => .nilIface) [] [] (.slice none 0 0) 0 := by
  have z1 : ∀ o : Obj, (w.alloc o).heap.size = w.heap.size + 1 := fun o => by simp
  refine ⟨((((((Below.refl _ _).alloc (Nat.le_refl _) _).alloc (by simp) _).alloc (by simp; omega) _).alloc (by simp; omega) _).alloc (by simp; omega) _), ?_, ?_, ?_, ?_, ?_, OwnS.nil _ _ _ _, by simp, by simp, by simp, by simp, by omega, by simp⟩
  · refine ((((Cel.new w _ #[.int .i64 S.quota, .map (some (w.heap.size + 1 + 1 + 1)), .map (some (w.heap.size + 1 + 1 + 1 + 1)), .slice none 0 0, .int .i64 S.fuse, .bool S.dead] _ (fun i hi => ?_)).alloc _).alloc _).alloc _).alloc _
    have : i = 0 ∨ i = 1 ∨ i = 2 ∨ i = 3 ∨ i = 4 ∨ i = 5 := by simp at hi; omega
    rcases this with rfl | rfl | rfl | rfl | rfl | rfl <;> rfl
  · generalize hW : (w.alloc (.cells #[.int .i64 S.quota, .map (some (w.heap.size + 1 + 1 + 1)), .map (some (w.heap.size + 1 + 1 + 1 + 1)), .slice none 0 0, .int .i64 S.fuse, .bool S.dead] 61)).alloc (.map #[] 0) = W
    have hs : W.heap.size = w.heap.size + 1 + 1 := by rw [← hW]; simp
    have h := ((Cel.new W 83 #[.map (some (w.heap.size + 1))] (fun _ => .map (some (w.heap.size + 1))) (fun i hi => by
      have : i = 0 := by simp at hi; omega
      subst this; rfl)).alloc (.map #[] 0)).alloc (.map #[] 0)
    rw [hs] at h
    exact h
  · refine ⟨?_, by omega, by simp, by simp, by simp, by simp, by simp, by simp, by simp⟩
    generalize hW : w.alloc (.cells #[.int .i64 S.quota, .map (some (w.heap.size + 1 + 1 + 1)), .map (some (w.heap.size + 1 + 1 + 1 + 1)), .slice none 0 0, .int .i64 S.fuse, .bool S.dead] 61) = W
    have hs : W.heap.size = w.heap.size + 1 := by rw [← hW]; simp
    have h := MapP.new W
    have hl := h.lt
    have h2 := ((h.same (heap_alloc_old _ (.cells #[.map (some (w.heap.size + 1))] 83) hl)))
    have h3 := h2.same (heap_alloc_old _ (.map #[] 0) h2.lt)
    have h4 := h3.same (heap_alloc_old _ (.map #[] 0) h3.lt)
    rw [hs] at h4
    exact h4
  · generalize hW : ((w.alloc (.cells #[.int .i64 S.quota, .map (some (w.heap.size + 1 + 1 + 1)), .map (some (w.heap.size + 1 + 1 + 1 + 1)), .slice none 0 0, .int .i64 S.fuse, .bool S.dead] 61)).alloc (.map #[] 0)).alloc (.cells #[.map (some (w.heap.size + 1))] 83) = W
    have hs : W.heap.size = w.heap.size + 1 + 1 + 1 := by rw [← hW]; simp
    have h := MapN.new W (fun _ => 0)
    have h2 := h.same (heap_alloc_old _ (.map #[] 0) h.lt)
    rw [hs] at h2
    exact h2
  · generalize hW : (((w.alloc (.cells #[.int .i64 S.quota, .map (some (w.heap.size + 1 + 1 + 1)), .map (some (w.heap.size + 1 + 1 + 1 + 1)), .slice none 0 0, .int .i64 S.fuse, .bool S.dead] 61)).alloc (.map #[] 0)).alloc (.cells #[.map (some (w.heap.size + 1))] 83)).alloc (.map #[] 0) = W
    have hs : W.heap.size = w.heap.size + 1 + 1 + 1 + 1 := by rw [← hW]; simp
    have h := MapN.new W (fun _ => 0)
    rw [hs] at h
    exact h
theorem ta_create (W : World) (x : Value) : (Instr.typeAssert (.iface 68 x) 73 68 true).run Try.prog W = .ok (.tuple #[x, .bool true]) W := by kernel_rfl
theorem ta_rename (W : World) (x : Value) : (Instr.typeAssert (.iface 80 x) 73 68 true).run Try.prog W = .ok (.tuple #[.agg #[.string ⟨#[]⟩, .pointer none], .bool false]) W := by kernel_rfl
theorem ta_remove (W : World) (x : Value) : (Instr.typeAssert (.iface 82 x) 73 68 true).run Try.prog W = .ok (.tuple #[.agg #[.string ⟨#[]⟩, .pointer none], .bool false]) W := by kernel_rfl
/-- What holds while a change's file gets its twin. -/
def CpJ (w0 : World) (B pc tg tc mn ml : Nat) (q : Pl) (S : Fs) (vc : Value) (k f yb : Nat) (nb : ByteArray) : List Value → World → Prop
  | [], W => (∃ D tb tv, CpSt w0 W B pc tg tc mn ml q S D tb tv S.now S.last vc k) ∧ Cel W yb 68 2 (fun j => if j = 0 then .string nb else .pointer (some ⟨q.fb f, 0, none⟩))
  | [v], W => ∃ D tb tv, v = .pointer (some ⟨tb f, 0, none⟩) ∧ f ∈ D ∧ CpSt w0 W B pc tg tc mn ml q S D tb tv S.now S.last vc k ∧ Cel W yb 68 2 (fun j => if j = 0 then .string nb else .pointer (some ⟨q.fb f, 0, none⟩))
  | [v, u], W => ∃ D tb tv, v = .pointer (some ⟨tb f, 0, none⟩) ∧ u = .agg #[.string nb, .pointer (some ⟨tb f, 0, none⟩)] ∧ f ∈ D ∧ CpSt w0 W B pc tg tc mn ml q S D tb tv S.now S.last vc k ∧ Cel W yb 68 2 (fun j => if j = 0 then .string nb else .pointer (some ⟨q.fb f, 0, none⟩))
  | [v, u, t], W => ∃ D tb tv, v = .pointer (some ⟨tb f, 0, none⟩) ∧ u = .agg #[.string nb, .pointer (some ⟨tb f, 0, none⟩)] ∧ t = .iface 68 (.agg #[.string nb, .pointer (some ⟨tb f, 0, none⟩)]) ∧ f ∈ D ∧ CpSt w0 W B pc tg tc mn ml q S D tb tv S.now S.last vc k ∧ Cel W yb 68 2 (fun j => if j = 0 then .string nb else .pointer (some ⟨q.fb f, 0, none⟩))
  | v :: u :: t :: s :: _, W => ∃ D tb tv, v = .pointer (some ⟨tb f, 0, none⟩) ∧ u = .agg #[.string nb, .pointer (some ⟨tb f, 0, none⟩)] ∧ t = .iface 68 (.agg #[.string nb, .pointer (some ⟨tb f, 0, none⟩)]) ∧ s = .iface 68 (.agg #[.string nb, .pointer (some ⟨tb f, 0, none⟩)]) ∧ f ∈ D ∧ CpSt w0 W B pc tg tc mn ml q S D tb tv S.now S.last vc k ∧ Cel W yb 68 2 (fun j => if j = 0 then .string nb else .pointer (some ⟨q.fb f, 0, none⟩))
theorem CpJ.cel {w0 : World} {B pc tg tc mn ml : Nat} {q : Pl} {S : Fs} {vc : Value} {k f yb : Nat} {nb : ByteArray} {vs : List Value} {W : World} (h : CpJ w0 B pc tg tc mn ml q S vc k f yb nb vs W) : W.cell? ⟨yb, 0, none⟩ = some (.string nb) ∧ W.cell? ⟨yb, 1, none⟩ = some (.pointer (some ⟨q.fb f, 0, none⟩)) := by
  have : Cel W yb 68 2 (fun j => if j = 0 then .string nb else .pointer (some ⟨q.fb f, 0, none⟩)) := by
    rcases vs with _ | ⟨v, _ | ⟨u, _ | ⟨t, _ | ⟨s, vs⟩⟩⟩⟩
    · exact h.2
    · obtain ⟨_, _, _, _, _, _, h⟩ := h; exact h
    · obtain ⟨_, _, _, _, _, _, _, h⟩ := h; exact h
    · obtain ⟨_, _, _, _, _, _, _, _, h⟩ := h; exact h
    · obtain ⟨_, _, _, _, _, _, _, _, _, h⟩ := h; exact h
  exact ⟨this.cell 0 (by decide), this.cell 1 (by decide)⟩
set_option maxRecDepth 100000 in
set_option maxHeartbeats 8000000 in
theorem copy_any (w : World) (F : Nat → Prop) (q : Pl) (S : Fs) (N : Nat) (hA : FsAt w F q S) (hI : Inv N 16777216 S) (hN : N ≤ 1000000) :
    Calls Try.prog 25 #[.pointer (some ⟨q.p, 0, none⟩)] w (CopyPost S w) := by
  have HPO : Hid (∀ e w', CopyPost S w e w' = (∃ p', e = .returned (.pointer (some ⟨p', 0, none⟩)) ∧ FsIn (fun k => w.heap.size ≤ k) p' w' S ∧ Below w.heap.size w w')) := Lib.hid (fun _ _ => rfl)
  generalize CopyPost S w = POST at *
  have HA := Lib.hid hA.bound
  have HI := Lib.hid hI
  have HLN : Hid (∀ p ∈ S.now, q.lv p.2) := Lib.hid (hA.lvn hI)
  have HLA : Hid (∀ p ∈ S.last, q.lv p.2) := Lib.hid hA.lvl
  have HLW : Hid (∀ c ∈ S.wait, ∀ i, chId c = some i → q.lv i) := Lib.hid hA.lvw
  have HSZ : Hid (∀ (i : Nat) (x : Fl), S.files[i]? = some x → x.b.length ≤ 16777216) := Lib.hid (fun i x hx => hI.big x (List.mem_of_getElem? hx))
  have HNN := Lib.hid hN
  have c0 := hA.c0
  have c1 := hA.c1
  have c2 := hA.c2
  obtain ⟨Av, cv, hvc⟩ := hA.wait.shape
  have c3 := hA.c3
  rw [hvc] at c3
  have HVC := Lib.hid hvc
  have c4 := hA.c4
  have c5 := hA.c5
  have hmm := @run_makeMap Try.prog
  have HST0 := Lib.hid (cp_begin w F q S)
  clear hA hI hvc hN
  go_enter Try.func25, Try.ntmps25
  go_upto_region 5 with (fail)
  generalize ((((w.alloc (.cells #[.int .i64 S.quota, .map (some (w.heap.size + 1 + 1 + 1)), .map (some (w.heap.size + 1 + 1 + 1 + 1)), .slice none 0 0, .int .i64 S.fuse, .bool S.dead] 61)).alloc (.map #[] 0)).alloc (.cells #[.map (some (w.heap.size + 1))] 83)).alloc (.map #[] 0)).alloc (.map #[] 0) = w1 at HST0 ⊢
  generalize w.heap.size + 1 + 1 + 1 + 1 + 1 = B at HST0
  generalize w.heap.size + 1 + 1 + 1 + 1 = ml at HST0 ⊢
  generalize w.heap.size + 1 + 1 + 1 = mn at HST0 ⊢
  generalize w.heap.size + 1 + 1 = tc at HST0 ⊢
  generalize w.heap.size + 1 = tg at HST0 ⊢
  generalize hpc : w.heap.size = pc at HST0 ⊢
  have HPC := Lib.hid hpc
  clear hpc hmm c0 c1 c2 c3 c4 c5
  generalize (fun _ => 0 : Nat → Nat) = tb0 at HST0
  generalize (fun _ => .nilIface : Nat → Value) = tv0 at HST0
  have hA1 := HA.out.below HST0.out.low
  have c1 := hA1.c1
  have hown : w1.ownsMap Try.prog 9 ptrElem q.mn S.now.length (dataN q.fb S.now) := hA1.now
  have HQN : Hid (q.mn < w.heap.size ∧ q.ml < w.heap.size) := Lib.hid ⟨HA.out.now.lt, HA.out.last.lt⟩
  clear hA1
  go_upto_region 6 with (at_range; refine wpList_range_own _ rfl _ 58 rfl 9 63 strK Try.underlying58 ptrElem q.mn S.now.length _ rfl hown ?_; intro w2 hrg2 hg2 hs2)
  have HRG2 := Lib.hid hrg2
  have hb2 : Below w1.heap.size w1 w2 := (Below.refl _ _).grown hg2 (Nat.le_refl _) (fun j hj => by cases hj)
  have HST2 := Lib.hid (HST0.out.below hb2)
  have HIT : Hid (ml < w1.heap.size) := Lib.hid HST0.out.sizeB
  generalize hit : w1.heap.size = it at HRG2 HIT ⊢
  have HITM := HIT
  clear hrg2 hg2 hs2 hb2 hown c1 hit HST0
  go_frame
  go_loopw [6] (fun _ wr => ∃ (D : List Nat) (tb : Nat → Nat) (tv : Nat → Value) (l1 : Ns) (left : Lit → Bool) (cnt : Nat), CpSt w wr B pc tg tc mn ml q S D tb tv l1 [] (.slice none 0 0) 0 ∧ wr.ranges Try.prog 9 ptrElem q.mn it S.now.length (dataN q.fb S.now) left cnt ∧ Hid (Came S.now l1 left) ∧ Hid (l1.length + cnt ≤ 1000000))
    (fun _ wr => wr.rangeLeft q.mn it)
  case atStart => exact ⟨_, _, _, [], _, _, HST2.out, HRG2.out, Came.start (fun p hp => dataN_has hp), Lib.hid (by have h1 := HI.out.lenNow; have h2 := HNN.out; show 0 + Maps.size (dataN q.fb S.now) ≤ _; unfold Maps.size dataN; simp; omega)⟩
  case round =>
    clear HST2 HRG2
    obtain ⟨D, tb, tv, l1, left, cnt, hst, hrg, HCM, HCN⟩ := hrel
    have HST := Lib.hid hst
    have HRG := Lib.hid hrg
    clear hst
    go_wp2_with (first
      | (at_next; refine wpList_next_ranges _ rfl _ rfl 9 strK ptrElem (α := ByteArray) (β := Nat) Value.string ptrV (fun key kl hk => strKey_inv hk) (fun v y hv => by obtain ⟨g, h1, _⟩ := ptrElem_inv hv; exact ⟨g, h1⟩) q.mn it S.now.length _ _ _ rfl hrg ?_ ?_)
      | go_in)
    · intro hc0 hl0
      have HL1 : Hid (l1 = S.now) := Lib.hid (HCM.out.done HI.out.upNow hl0)
      have HST1 : Hid (CpSt w wr B pc tg tc mn ml q S D tb tv S.now [] (.slice none 0 0) 0) := Lib.hid (by rw [← HL1.out]; exact HST.out)
      clear hrg hl0 HST HRG HCM HCN HL1
      have hA1 := HA.out.below HST1.out.low
      have c2 := hA1.c2
      have hown : wr.ownsMap Try.prog 9 ptrElem q.ml S.last.length (dataN q.fb S.last) := hA1.last
      clear hA1
      go_upto_region 10 with (first
        | (at_range; refine wpList_range_own _ rfl _ 58 rfl 9 63 strK Try.underlying58 ptrElem q.ml S.last.length _ rfl hown ?_; intro w4 hrg4 hg4 hs4)
        | go_in)
      have HRG4 := Lib.hid hrg4
      have hb4 : Below wr.heap.size wr w4 := (Below.refl _ _).grown hg4 (Nat.le_refl _) (fun j hj => by cases hj)
      have HST4 := Lib.hid (HST1.out.below hb4)
      have HITM : Hid (ml < wr.heap.size) := Lib.hid HST1.out.sizeB
      generalize hit2 : wr.heap.size = it2 at HRG4 HITM ⊢
      clear hrg4 hg4 hs4 hb4 hown c2 hit2 HST1
      go_frame
      generalize wr = wb at *
      generalize D = D0 at HST4
      generalize tb = tb1 at HST4
      generalize tv = tv1 at HST4
      generalize left = left0 at *
      go_loopw [8] (fun _ wr => ∃ (D : List Nat) (tb : Nat → Nat) (tv : Nat → Value) (l2 : Ns) (left : Lit → Bool) (cnt : Nat), CpSt w wr B pc tg tc mn ml q S D tb tv S.now l2 (.slice none 0 0) 0 ∧ wr.ranges Try.prog 9 ptrElem q.ml it2 S.last.length (dataN q.fb S.last) left cnt ∧ Hid (Came S.last l2 left) ∧ Hid (l2.length + cnt ≤ 1000000))
        (fun _ wr => wr.rangeLeft q.ml it2)
      case atStart => exact ⟨_, _, _, [], _, _, HST4.out, HRG4.out, Came.start (fun p hp => dataN_has hp), Lib.hid (by have h1 := HI.out.lenLast; have h2 := HNN.out; show 0 + Maps.size (dataN q.fb S.last) ≤ _; unfold Maps.size dataN; simp; omega)⟩
      case round =>
        clear HST4 HRG4
        obtain ⟨D, tb, tv, l2, left, cnt, hst, hrg, HCM, HCN⟩ := hrel
        have HST := Lib.hid hst
        have HRG := Lib.hid hrg
        clear hst
        go_wp2_with (first
          | (at_next; refine wpList_next_ranges _ rfl _ rfl 9 strK ptrElem (α := ByteArray) (β := Nat) Value.string ptrV (fun key kl hk => strKey_inv hk) (fun v y hv => by obtain ⟨g, h1, _⟩ := ptrElem_inv hv; exact ⟨g, h1⟩) q.ml it2 S.last.length _ _ _ rfl hrg ?_ ?_)
          | go_in)
        · intro hc0 hl0
          have HL2 : Hid (l2 = S.last) := Lib.hid (HCM.out.done HI.out.up hl0)
          have HST1 : Hid (CpSt w wr B pc tg tc mn ml q S D tb tv S.now S.last (.slice none 0 0) 0) := Lib.hid (by rw [← HL2.out]; exact HST.out)
          clear hrg hl0 HST HRG HCM HCN HL2
          have hA1 := HA.out.below HST1.out.low
          have c3 := hA1.c3
          rw [HVC.out] at c3
          obtain ⟨i0, hi, hz0, hz1, hz2⟩ := info_parts info_ch
          clear hA1
          generalize wr = wb2 at *
          generalize D = D1 at HST1
          generalize tb = tb2 at HST1
          generalize tv = tv2 at HST1
          go_upto_region 14 with go_in
          go_loopw [61] (fun vi wr => ∃ (k : Nat) (D : List Nat) (tb : Nat → Nat) (tv : Nat → Value) (vc : Value), vi = .int .i64 (k : Int) ∧ k ≤ S.wait.length ∧ CpSt w wr B pc tg tc mn ml q S D tb tv S.now S.last vc k) (fun vi _ => S.wait.length - (intOf vi).toNat)
          case atStart => exact ⟨0, _, _, _, _, rfl, Nat.zero_le _, HST1.out⟩
          case round =>
            clear HST1 c3
            obtain ⟨k, D, tb, tv, vc, rfl, hk, hst⟩ := hrel
            have HST := Lib.hid hst
            clear hst
            by_cases hlt : k < S.wait.length
            · obtain ⟨ch, hchk⟩ : ∃ ch, S.wait[k]? = some ch := ⟨_, List.getElem?_eq_getElem hlt⟩
              have how := (HA.out.below HST.out.low).wait
              rw [HVC.out] at how
              obtain ⟨gb, off, c', hv, _, hgl, hcell⟩ := how.cells (by rw [List.length_map]; omega)
              injection hv with hv1 _ hv3
              subst hv1
              subst hv3
              have r0 := hcell k (by rw [List.length_map]; omega)
              rw [List.getElem?_map, hchk] at r0
              have d2 : decide ((k : Int) < (S.wait.length : Int)) = true := decide_eq_true (by omega)
              have d2' : decide (k < S.wait.length) = true := decide_eq_true hlt
              have HLC := Lib.hid (HLW.out ch (List.mem_of_getElem? hchk))
              clear how hgl hcell
              cases ch with
              | create nm f =>
                have r1 : wr.cell? ⟨gb, off + k, none⟩ = some (.iface 68 (.agg #[.string (bkN nm), .pointer (some ⟨q.fb f, 0, none⟩)])) := r0
                have hta := fun W x => ta_create W x
                clear r0
                go_upto_region 17 with go_in
                have hl6 : Below wr.heap.size wr (wr.alloc (.cells #[.string (bkN nm), .pointer (some ⟨q.fb f, 0, none⟩)] 68)) := (Below.refl _ _).alloc (Nat.le_refl _) _
                have HST6 := Lib.hid (HST.out.below hl6)
                have hC6 : Cel (wr.alloc (.cells #[.string (bkN nm), .pointer (some ⟨q.fb f, 0, none⟩)] 68)) wr.heap.size 68 2 (fun j => if j = 0 then .string (bkN nm) else .pointer (some ⟨q.fb f, 0, none⟩)) := Cel.new wr _ #[.string (bkN nm), .pointer (some ⟨q.fb f, 0, none⟩)] _ (fun j hj => by
                  have : j = 0 ∨ j = 1 := by simp at hj; omega
                  rcases this with rfl | rfl <;> rfl)
                have HYT : Hid (wr.heap.size ≠ tg) := Lib.hid (by have h1 := HST.out.sizeB; have h2 := HST.out.ord; omega)
                generalize wr.alloc (.cells #[.string (bkN nm), .pointer (some ⟨q.fb f, 0, none⟩)] 68) = w6 at *
                generalize wr.heap.size = yb at *
                have HC6 := Lib.hid hC6
                have HLV : Hid (q.lv f) := Lib.hid (HLC.out f rfl)
                clear hl6 hC6 r1 hta HST
                go_upto_region 18 with go_in
                go_cut [11] (fun v wx => ∃ D' tb' tv', v = .iface 68 (.agg #[.string (bkN nm), .pointer (some ⟨tb' f, 0, none⟩)]) ∧ f ∈ D' ∧ CpSt w wx B pc tg tc mn ml q S D' tb' tv' S.now S.last vc k)
                case first => as_aux_lemma =>
                  have HTW : Hid (∀ W D tb tv, CpSt w W B pc tg tc mn ml q S D tb tv S.now S.last vc k → Cel W yb 68 2 (fun j => if j = 0 then .string (bkN nm) else .pointer (some ⟨q.fb f, 0, none⟩)) → Calls Try.prog 42 #[.pointer (some ⟨q.fb f, 0, none⟩), .pointer (some ⟨tc, 0, none⟩)] W (fun e W' => ∃ D' tb' tv', e = .returned (.pointer (some ⟨tb' f, 0, none⟩)) ∧ f ∈ D' ∧ CpSt w W' B pc tg tc mn ml q S D' tb' tv' S.now S.last vc k ∧ Cel W' yb 68 2 (fun j => if j = 0 then .string (bkN nm) else .pointer (some ⟨q.fb f, 0, none⟩)))) := Lib.hid (fun W D tb tv hst5 hcy => by
                    refine (twin_any W _ q S B tg tc D tb tv (HA.out.below hst5.low) hst5.tw hst5.ctc hst5.szB f HLV.out (by have := hst5.ord; omega) (fun k hk => by have := hst5.ord; omega) (fun x hx => HSZ.out f x hx)).mono ?_
                    rintro e w5 ⟨D6, tb6, tv6, rfl, hi6, ht6, hs6, hc6, hn6⟩
                    exact ⟨D6, tb6, tv6, rfl, hi6, hst5.twin ht6 hs6 hc6 hn6, hcy.chg hc6 HYT.out⟩)
                  refine wp_region_ph (by kernel_rfl) [5, 6, 7, 8] [.span 0 1, .span 0 1, .span 0 0, .span 0 0, .span 0 0, .phase 0, .phase 1, .phase 2, .phase 3] [fun z9 => z9 = .pointer (some ⟨yb, 0, none⟩), fun z9 => z9 = .string (bkN nm), fun z9 => z9 = .func (Fn.func 42) #[] #[.pointer (some ⟨tc, 0, none⟩)], fun z9 => z9 = .pointer (some ⟨yb, 1, none⟩), fun z9 => z9 = .pointer (some ⟨q.fb f, 0, none⟩), fun _ => True, fun _ => True, fun _ => True, fun _ => True] (CpJ w B pc tg tc mn ml q S vc k f yb (bkN nm)) (by kernel_rfl) (by kernel_rfl) (by kernel_rfl) (by kernel_rfl) (by kernel_rfl) (by kernel_rfl) rfl rfl ((show (∃ D tb tv, CpSt w w6.drew B pc tg tc mn ml q S D tb tv S.now S.last vc k) ∧ _ from ⟨⟨D, tb, tv, HST6.out.drew⟩, HC6.out.drew⟩)) ?steps ?done
                  case steps =>
                    refine ⟨?_, ?_, ?_, ?_, ?_, ?_, ?_, ?_, ?_, trivial⟩
                    · intro us au w1 k0 hlo hhi ha hd hst hI
                      have q12 := slot_far (t := 12) (v := .pointer (some ⟨yb, 0, none⟩)) ha (by kernel_rfl) (by kernel_rfl)
                      have p12 := slot_norm q12
                      clear ha hd hst
                      exact StepI.pure (v := .pointer (some ⟨yb, 0, none⟩)) rfl rfl (by go_simp) ⟨rfl, hI⟩
                    · intro us au w1 k1 hlo hhi ha hd hst hI
                      have e0 := hd 0 _ (by kernel_rfl) rfl
                      have q71 := slot_at (t := 71) 0 ha (by kernel_rfl) (by kernel_rfl) (by kernel_rfl) e0
                      have p71 := slot_norm q71
                      clear ha hd hst
                      have kk := (CpJ.cel hI).1
                      exact StepI.pure (v := .string (bkN nm)) rfl rfl (by go_simp) ⟨rfl, hI⟩
                    · intro us au w1 k2 hlo hhi ha hd hst hI
                      obtain rfl : k2 = 0 := by omega
                      have q5 := slot_far (t := 5) (v := .func (Fn.func 42) #[] #[.pointer (some ⟨tc, 0, none⟩)]) ha (by kernel_rfl) (by kernel_rfl)
                      have p5 := slot_norm q5
                      clear ha hd hst
                      exact StepI.pure (v := .func (Fn.func 42) #[] #[.pointer (some ⟨tc, 0, none⟩)]) rfl rfl (by go_simp) ⟨rfl, hI⟩
                    · intro us au w1 k3 hlo hhi ha hd hst hI
                      obtain rfl : k3 = 0 := by omega
                      have q12 := slot_far (t := 12) (v := .pointer (some ⟨yb, 0, none⟩)) ha (by kernel_rfl) (by kernel_rfl)
                      have p12 := slot_norm q12
                      clear ha hd hst
                      exact StepI.pure (v := .pointer (some ⟨yb, 1, none⟩)) rfl rfl (by go_simp) ⟨rfl, hI⟩
                    · intro us au w1 k4 hlo hhi ha hd hst hI
                      obtain rfl : k4 = 0 := by omega
                      have e3 := hd 3 _ (by kernel_rfl) rfl
                      have q74 := slot_at (t := 74) 3 ha (by kernel_rfl) (by kernel_rfl) (by kernel_rfl) e3
                      have p74 := slot_norm q74
                      clear ha hd hst
                      have kk := (CpJ.cel hI).2
                      exact StepI.pure (v := .pointer (some ⟨q.fb f, 0, none⟩)) rfl rfl (by go_simp) ⟨rfl, hI⟩
                    · intro us au w1 ha hd hst hI
                      have e2 := hd 2 _ (by kernel_rfl) rfl
                      have e4 := hd 4 _ (by kernel_rfl) rfl
                      have q73 := slot_at (t := 73) 2 ha (by kernel_rfl) (by kernel_rfl) (by kernel_rfl) e2
                      have p73 := slot_norm q73
                      have q75 := slot_at (t := 75) 4 ha (by kernel_rfl) (by kernel_rfl) (by kernel_rfl) e4
                      have p75 := slot_norm q75
                      clear ha hd hst
                      obtain ⟨⟨D5, tb5, tv5, hst5⟩, hc5⟩ := hI
                      refine StepI.call (f := 42) (args := #[.pointer (some ⟨q.fb f, 0, none⟩), .pointer (some ⟨tc, 0, none⟩)]) rfl rfl (by go_simp) ?_
                      refine (HTW.out w1 D5 tb5 tv5 hst5 hc5).mono ?_
                      rintro e w5 ⟨D6, tb6, tv6, rfl, hi6, hst6, hc6⟩
                      exact ⟨_, rfl, trivial, D6, tb6, tv6, rfl, hi6, hst6, hc6⟩
                    · intro us au w1 ha hd hst hI
                      have e1 := hd 1 _ (by kernel_rfl) rfl
                      obtain ⟨e5⟩ := hd 5 _ (by kernel_rfl) rfl
                      have q72 := slot_at (t := 72) 1 ha (by kernel_rfl) (by kernel_rfl) (by kernel_rfl) e1
                      have p72 := slot_norm q72
                      have q76 := slot_at (t := 76) 5 ha (by kernel_rfl) (by kernel_rfl) (by kernel_rfl) (Eq.refl (us 5))
                      have p76 := slot_norm q76
                      clear ha hd hst
                      obtain ⟨D5, tb5, tv5, hv5, hi5, hst5, hc5⟩ := hI
                      rw [hv5] at p76
                      exact StepI.pure (v := .agg #[.string (bkN nm), .pointer (some ⟨tb5 f, 0, none⟩)]) rfl rfl (by go_simp) ⟨trivial, D5, tb5, tv5, hv5, rfl, hi5, hst5, hc5⟩
                    · intro us au w1 ha hd hst hI
                      obtain ⟨e6⟩ := hd 6 _ (by kernel_rfl) rfl
                      have q77 := slot_at (t := 77) 6 ha (by kernel_rfl) (by kernel_rfl) (by kernel_rfl) (Eq.refl (us 6))
                      have p77 := slot_norm q77
                      clear ha hd hst
                      obtain ⟨D5, tb5, tv5, hv5, hv6, hi5, hst5, hc5⟩ := hI
                      rw [hv6] at p77
                      exact StepI.pure (v := .iface 68 (.agg #[.string (bkN nm), .pointer (some ⟨tb5 f, 0, none⟩)])) rfl rfl (by go_simp) ⟨trivial, D5, tb5, tv5, hv5, hv6, rfl, hi5, hst5, hc5⟩
                    · intro us au w1 ha hd hst hI
                      obtain ⟨e7⟩ := hd 7 _ (by kernel_rfl) rfl
                      have q78 := slot_at (t := 78) 7 ha (by kernel_rfl) (by kernel_rfl) (by kernel_rfl) (Eq.refl (us 7))
                      have p78 := slot_norm q78
                      clear ha hd hst
                      obtain ⟨D5, tb5, tv5, hv5, hv6, hv7, hi5, hst5, hc5⟩ := hI
                      rw [hv7] at p78
                      exact StepI.pure (v := .iface 68 (.agg #[.string (bkN nm), .pointer (some ⟨tb5 f, 0, none⟩)])) rfl rfl (by go_simp) ⟨trivial, D5, tb5, tv5, hv5, hv6, hv7, rfl, hi5, hst5, hc5⟩
                  case done =>
                    intro us w1 hI hd
                    obtain ⟨D7, tb7, tv7, hv5, hv6, hv7, hv8, hi7, hst7, hc7⟩ := hI
                    have HST7 := Lib.hid hst7
                    have HI7 := Lib.hid hi7
                    clear hd hst7 hi7 hc7
                    simp only [putAll, hv8]
                    go_simp
                    go_wp2
                    go_meet
                    exact ⟨D7, tb7, tv7, rfl, HI7.out, HST7.out⟩
                case rest =>
                  obtain ⟨D', tb', tv', rfl, hfD, hst8⟩ := hcut
                  have HST8 := Lib.hid hst8
                  have HVE : Hid (chV tb' (.create nm f) = .iface 68 (.agg #[.string (bkN nm), .pointer (some ⟨tb' f, 0, none⟩)])) := Lib.hid rfl
                  have HCI : Hid (∀ i, chId (.create nm f) = some i → i ∈ D') := Lib.hid (fun i hi => by injection hi with hi; rw [← hi]; exact hfD)
                  clear hst8 hfD
                  have HSTA := HST8
                  obtain ⟨Ac, cc, rfl⟩ := HSTA.out.own.shape
                  have HK8 := Lib.hid hchk
                  have k3 : wc.cell? ⟨pc, 3, none⟩ = some (.slice Ac k cc) := HSTA.out.cel.cell 3 (by decide)
                  have hl8 : Below wc.heap.size wc (wc.alloc (.cells #[.iface 68 (.agg #[.string (bkN nm), .pointer (some ⟨tb' f, 0, none⟩)])] 73)) := (Below.refl _ _).alloc (Nat.le_refl _) _
                  have HST9 := Lib.hid (HSTA.out.below hl8)
                  have HO9 := Lib.hid HST9.out.own
                  have HSRC := Lib.hid (Src.one_new (P := Try.prog) (w := wc) (u := .iface 68 (.agg #[.string (bkN nm), .pointer (some ⟨tb' f, 0, none⟩)])) (t := 73) rfl)
                  have hbs : B ≤ (wc.alloc (.cells #[.iface 68 (.agg #[.string (bkN nm), .pointer (some ⟨tb' f, 0, none⟩)])] 73)).heap.size := HST9.out.szB
                  have hwt : k ≤ 1000000 := by have h1 := HI.out.wt; have h2 := HNN.out; omega
                  have hbyte : (k + 1) * 16 ≤ 140737488355328 := by omega
                  have hmax : k + 1 ≤ maxLen := by unfold maxLen; omega
                  have HCL : Hid (∀ w9, (wc.alloc (.cells #[.iface 68 (.agg #[.string (bkN nm), .pointer (some ⟨tb' f, 0, none⟩)])] 73)).grownBy w9 (Value.slice Ac k cc).ownBlock → w9.cell? ⟨pc, 3, none⟩ = some (.slice Ac k cc) ∧ w9.frozen? ⟨pc, 3, none⟩ = false) := Lib.hid (fun w9 hg9 => by
                    have hc := HST9.out.cel.grown hg9 (fun e => by have h1 := (HST9.out.own.lt pc e).1; have h2 := HST9.out.ord; omega)
                    exact ⟨hc.cell 3 (by decide), hc.frozen 3⟩)
                  clear hl8 hchk
                  go_wp2_with (at_builtin; go_loud (refine wpList_append_S rfl (.tmp 80) (.tmp 82) 59 59 rfl i0 .nilIface 16 (.slice 73) Try.underlying59 Try.underlying59 (fun _ h => by cases h) hi hz0 hz1 hz2 rfl rfl rfl HO9.out HSRC.out hmax hbyte hbs ?_); intro A9 c9 w9 ho9 hg9 hw9; have k9 := (HCL.out w9 hg9).1; have f9 := (HCL.out w9 hg9).2)
                  have hvv : ∀ j, (Value.slice A9 (k + 1) c9).ownBlock = some j → (Value.slice Ac k cc).ownBlock = some j ∨ (wc.alloc (.cells #[.iface 68 (.agg #[.string (bkN nm), .pointer (some ⟨tb' f, 0, none⟩)])] 73)).heap.size ≤ j := by
                    intro j hj
                    rcases hw9 with h | h
                    · exact .inl (h.symm.trans hj)
                    · right; rw [h] at hj; injection hj with hj; omega
                  have HST10 := Lib.hid (HST9.out.app HK8.out (by rw [HVE.out]; exact ho9) hg9 hvv HCI.out)
                  clear ho9 hg9 hw9 hvv k9 f9 k3
                  go_roundw
                  case rel => exact ⟨k + 1, _, _, _, _, by go_num, by omega, HST10.out⟩
                  case measure => simp [intOf]; omega
              | rename a b f =>
                have r1 : wr.cell? ⟨gb, off + k, none⟩ = some (.iface 80 (.agg #[.string (bkN a), .string (bkN b)])) := r0
                have hta := fun W x => ta_rename W x
                clear r0
                go_upto_region 17 with go_in
                have hl6 : Below wr.heap.size wr (wr.alloc (.cells #[.string ⟨#[]⟩, .pointer none] 68)) := (Below.refl _ _).alloc (Nat.le_refl _) _
                have HST8 := Lib.hid (HST.out.below hl6)
                generalize wr.alloc (.cells #[.string ⟨#[]⟩, .pointer none] 68) = w6 at *
                have HVE : Hid (chV tb (.rename a b f) = .iface 80 (.agg #[.string (bkN a), .string (bkN b)])) := Lib.hid rfl
                have HCI : Hid (∀ i, chId (.rename a b f) = some i → i ∈ D) := Lib.hid (fun i hi => by cases hi)
                clear hl6 r1 hta HST
                have HSTA := HST8
                obtain ⟨Ac, cc, rfl⟩ := HSTA.out.own.shape
                have HK8 := Lib.hid hchk
                have k3 : w6.cell? ⟨pc, 3, none⟩ = some (.slice Ac k cc) := HSTA.out.cel.cell 3 (by decide)
                have hl8 : Below w6.heap.size w6 (w6.alloc (.cells #[.iface 80 (.agg #[.string (bkN a), .string (bkN b)])] 73)) := (Below.refl _ _).alloc (Nat.le_refl _) _
                have HST9 := Lib.hid (HSTA.out.below hl8)
                have HO9 := Lib.hid HST9.out.own
                have HSRC := Lib.hid (Src.one_new (P := Try.prog) (w := w6) (u := .iface 80 (.agg #[.string (bkN a), .string (bkN b)])) (t := 73) rfl)
                have hbs : B ≤ (w6.alloc (.cells #[.iface 80 (.agg #[.string (bkN a), .string (bkN b)])] 73)).heap.size := HST9.out.szB
                have hwt : k ≤ 1000000 := by have h1 := HI.out.wt; have h2 := HNN.out; omega
                have hbyte : (k + 1) * 16 ≤ 140737488355328 := by omega
                have hmax : k + 1 ≤ maxLen := by unfold maxLen; omega
                have HCL : Hid (∀ w9, (w6.alloc (.cells #[.iface 80 (.agg #[.string (bkN a), .string (bkN b)])] 73)).grownBy w9 (Value.slice Ac k cc).ownBlock → w9.cell? ⟨pc, 3, none⟩ = some (.slice Ac k cc) ∧ w9.frozen? ⟨pc, 3, none⟩ = false) := Lib.hid (fun w9 hg9 => by
                  have hc := HST9.out.cel.grown hg9 (fun e => by have h1 := (HST9.out.own.lt pc e).1; have h2 := HST9.out.ord; omega)
                  exact ⟨hc.cell 3 (by decide), hc.frozen 3⟩)
                clear hl8 hchk
                go_wp2_with (at_builtin; go_loud (refine wpList_append_S rfl (.tmp 80) (.tmp 82) 59 59 rfl i0 .nilIface 16 (.slice 73) Try.underlying59 Try.underlying59 (fun _ h => by cases h) hi hz0 hz1 hz2 rfl rfl rfl HO9.out HSRC.out hmax hbyte hbs ?_); intro A9 c9 w9 ho9 hg9 hw9; have k9 := (HCL.out w9 hg9).1; have f9 := (HCL.out w9 hg9).2)
                have hvv : ∀ j, (Value.slice A9 (k + 1) c9).ownBlock = some j → (Value.slice Ac k cc).ownBlock = some j ∨ (w6.alloc (.cells #[.iface 80 (.agg #[.string (bkN a), .string (bkN b)])] 73)).heap.size ≤ j := by
                  intro j hj
                  rcases hw9 with h | h
                  · exact .inl (h.symm.trans hj)
                  · right; rw [h] at hj; injection hj with hj; omega
                have HST10 := Lib.hid (HST9.out.app HK8.out (by rw [HVE.out]; exact ho9) hg9 hvv HCI.out)
                clear ho9 hg9 hw9 hvv k9 f9 k3
                go_roundw
                case rel => exact ⟨k + 1, _, _, _, _, by go_num, by omega, HST10.out⟩
                case measure => simp [intOf]; omega
              | remove nm =>
                have r1 : wr.cell? ⟨gb, off + k, none⟩ = some (.iface 82 (.agg #[.string (bkN nm)])) := r0
                have hta := fun W x => ta_remove W x
                clear r0
                go_upto_region 17 with go_in
                have hl6 : Below wr.heap.size wr (wr.alloc (.cells #[.string ⟨#[]⟩, .pointer none] 68)) := (Below.refl _ _).alloc (Nat.le_refl _) _
                have HST8 := Lib.hid (HST.out.below hl6)
                generalize wr.alloc (.cells #[.string ⟨#[]⟩, .pointer none] 68) = w6 at *
                have HVE : Hid (chV tb (.remove nm) = .iface 82 (.agg #[.string (bkN nm)])) := Lib.hid rfl
                have HCI : Hid (∀ i, chId (.remove nm) = some i → i ∈ D) := Lib.hid (fun i hi => by cases hi)
                clear hl6 r1 hta HST
                have HSTA := HST8
                obtain ⟨Ac, cc, rfl⟩ := HSTA.out.own.shape
                have HK8 := Lib.hid hchk
                have k3 : w6.cell? ⟨pc, 3, none⟩ = some (.slice Ac k cc) := HSTA.out.cel.cell 3 (by decide)
                have hl8 : Below w6.heap.size w6 (w6.alloc (.cells #[.iface 82 (.agg #[.string (bkN nm)])] 73)) := (Below.refl _ _).alloc (Nat.le_refl _) _
                have HST9 := Lib.hid (HSTA.out.below hl8)
                have HO9 := Lib.hid HST9.out.own
                have HSRC := Lib.hid (Src.one_new (P := Try.prog) (w := w6) (u := .iface 82 (.agg #[.string (bkN nm)])) (t := 73) rfl)
                have hbs : B ≤ (w6.alloc (.cells #[.iface 82 (.agg #[.string (bkN nm)])] 73)).heap.size := HST9.out.szB
                have hwt : k ≤ 1000000 := by have h1 := HI.out.wt; have h2 := HNN.out; omega
                have hbyte : (k + 1) * 16 ≤ 140737488355328 := by omega
                have hmax : k + 1 ≤ maxLen := by unfold maxLen; omega
                have HCL : Hid (∀ w9, (w6.alloc (.cells #[.iface 82 (.agg #[.string (bkN nm)])] 73)).grownBy w9 (Value.slice Ac k cc).ownBlock → w9.cell? ⟨pc, 3, none⟩ = some (.slice Ac k cc) ∧ w9.frozen? ⟨pc, 3, none⟩ = false) := Lib.hid (fun w9 hg9 => by
                  have hc := HST9.out.cel.grown hg9 (fun e => by have h1 := (HST9.out.own.lt pc e).1; have h2 := HST9.out.ord; omega)
                  exact ⟨hc.cell 3 (by decide), hc.frozen 3⟩)
                clear hl8 hchk
                go_wp2_with (at_builtin; go_loud (refine wpList_append_S rfl (.tmp 80) (.tmp 82) 59 59 rfl i0 .nilIface 16 (.slice 73) Try.underlying59 Try.underlying59 (fun _ h => by cases h) hi hz0 hz1 hz2 rfl rfl rfl HO9.out HSRC.out hmax hbyte hbs ?_); intro A9 c9 w9 ho9 hg9 hw9; have k9 := (HCL.out w9 hg9).1; have f9 := (HCL.out w9 hg9).2)
                have hvv : ∀ j, (Value.slice A9 (k + 1) c9).ownBlock = some j → (Value.slice Ac k cc).ownBlock = some j ∨ (w6.alloc (.cells #[.iface 82 (.agg #[.string (bkN nm)])] 73)).heap.size ≤ j := by
                  intro j hj
                  rcases hw9 with h | h
                  · exact .inl (h.symm.trans hj)
                  · right; rw [h] at hj; injection hj with hj; omega
                have HST10 := Lib.hid (HST9.out.app HK8.out (by rw [HVE.out]; exact ho9) hg9 hvv HCI.out)
                clear ho9 hg9 hw9 hvv k9 f9 k3
                go_roundw
                case rel => exact ⟨k + 1, _, _, _, _, by go_num, by omega, HST10.out⟩
                case measure => simp [intOf]; omega
            · obtain rfl : k = S.wait.length := by omega
              have d2 : decide ((S.wait.length : Int) < (S.wait.length : Int)) = false := decide_eq_false (by omega)
              have d2' : decide (S.wait.length < S.wait.length) = false := decide_eq_false (by omega)
              go_wp2
              rw [HPO.out]
              refine ⟨pc, rfl, ⟨_, rfl, HST.out.done HA.out⟩, HST.out.low⟩
        · -- DONE{
          intro x c kl yd yp w3 cnt1 hkey hlx hv hat hrg1 hlt hg1 hs1 hen
          obtain rfl := strKey_lit hkey
          obtain ⟨g, hgv, hy⟩ := ptrElem_inv hv
          injection hy with hy _
          have hcg : c = g := by injection hgv with h; injection h with h; injection h
          rw [hy] at hat
          subst hcg
          obtain ⟨i, hgi, rfl⟩ := dataN_hit hat
          have hmem := (getN_some HI.out.up).1 hgi
          have hnx : x.size ≤ 9223372036854775807 := by
            have hk := hkey
            simp [keyOf, Try.underlying9, mapKey] at hk
            unfold maxLen at hk
            omega
          have HNX := Lib.hid hnx
          have HLV : Hid (q.lv i) := Lib.hid (HLA.out _ hmem)
          have HCM1 := Lib.hid (HCM.out.step HI.out.up hmem hlx)
          have hch : Chg (fun k => k = it2) wr w3 := Chg.of_grown hg1 (fun k hk => by injection hk with hk; exact hk.symm)
          have HST3 : Hid (CpSt w w3 B pc tg tc mn ml q S D tb tv S.now l2 (.slice none 0 0) 0) := Lib.hid (HST.out.iter HRG.out hch HITM.out)
          have HRG1 := Lib.hid hrg1
          have HLT := Lib.hid hlt
          clear hkey hlx hv hat hrg1 hgv hy hgi hmem hrg hlt hg1 hs1 hch hnx
          unfold ptrV at *
          go_upto_region 12 with go_in
          refine wp_region_ph (by kernel_rfl) [5, 6] [.span 0 1, .span 0 1, .span 0 1, .span 0 0, .span 0 0, .phase 0, .phase 1] [fun z9 => z9 = .pointer (some ⟨pc, 2, none⟩), fun z9 => z9 = .map (some ml), fun z9 => z9 = .string x, fun z9 => z9 = .func (Fn.func 42) #[] #[.pointer (some ⟨tc, 0, none⟩)], fun z9 => z9 = .pointer (some ⟨q.fb i, 0, none⟩), fun _ => True, fun _ => True] (CpI w B pc tg tc mn ml q S S.now l2 S.now (putN l2 x.data.toList i) (.slice none 0 0) 0 i (fun W => W.ranges Try.prog 9 ptrElem q.ml it2 S.last.length (dataN q.fb S.last) (fun z => left z && !z.sameKey (.string x.data.toList)) cnt1)) (by kernel_rfl) (by kernel_rfl) (by kernel_rfl) (by kernel_rfl) (by kernel_rfl) (by kernel_rfl) rfl rfl ((show (∃ D tb tv, CpSt w w3.drew B pc tg tc mn ml q S D tb tv S.now l2 (.slice none 0 0) 0) ∧ _ from ⟨⟨D, tb, tv, HST3.out.drew⟩, HRG1.out⟩)) ?steps ?done
          case steps =>
            refine ⟨?_, ?_, ?_, ?_, ?_, ?_, ?_, trivial⟩
            · intro us au w1 k0 hlo hhi ha hd hst hI
              have q3 := slot_far (t := 3) (v := .pointer (some ⟨pc, 0, none⟩)) ha (by kernel_rfl) (by kernel_rfl)
              have p3 := slot_norm q3
              clear ha hd hst
              exact StepI.pure (v := .pointer (some ⟨pc, 2, none⟩)) rfl rfl (by go_simp) ⟨rfl, hI⟩
            · intro us au w1 k1 hlo hhi ha hd hst hI
              have e0 := hd 0 _ (by kernel_rfl) rfl
              have q50 := slot_at (t := 50) 0 ha (by kernel_rfl) (by kernel_rfl) (by kernel_rfl) e0
              have p50 := slot_norm q50
              clear ha hd hst
              have kk : w1.cell? ⟨pc, 2, none⟩ = some (.map (some ml)) := CpI.cel2 hI
              exact StepI.pure (v := .map (some ml)) rfl rfl (by go_simp) ⟨rfl, hI⟩
            · intro us au w1 k2 hlo hhi ha hd hst hI
              have q8 := slot_far (t := 8) (v := .string x) ha (by kernel_rfl) (by kernel_rfl)
              have p8 := slot_norm q8
              clear ha hd hst
              exact StepI.pure (v := .string x) rfl rfl (by go_simp) ⟨rfl, hI⟩
            · intro us au w1 k3 hlo hhi ha hd hst hI
              obtain rfl : k3 = 0 := by omega
              have q5 := slot_far (t := 5) (v := .func (Fn.func 42) #[] #[.pointer (some ⟨tc, 0, none⟩)]) ha (by kernel_rfl) (by kernel_rfl)
              have p5 := slot_norm q5
              clear ha hd hst
              exact StepI.pure (v := .func (Fn.func 42) #[] #[.pointer (some ⟨tc, 0, none⟩)]) rfl rfl (by go_simp) ⟨rfl, hI⟩
            · intro us au w1 k4 hlo hhi ha hd hst hI
              obtain rfl : k4 = 0 := by omega
              have q9 := slot_far (t := 9) (v := .pointer (some ⟨q.fb i, 0, none⟩)) ha (by kernel_rfl) (by kernel_rfl)
              have p9 := slot_norm q9
              clear ha hd hst
              exact StepI.pure (v := .pointer (some ⟨q.fb i, 0, none⟩)) rfl rfl (by go_simp) ⟨rfl, hI⟩
            · intro us au w1 ha hd hst hI
              have e3 := hd 3 _ (by kernel_rfl) rfl
              have e4 := hd 4 _ (by kernel_rfl) rfl
              have q53 := slot_at (t := 53) 3 ha (by kernel_rfl) (by kernel_rfl) (by kernel_rfl) e3
              have p53 := slot_norm q53
              have q54 := slot_at (t := 54) 4 ha (by kernel_rfl) (by kernel_rfl) (by kernel_rfl) e4
              have p54 := slot_norm q54
              clear ha hd hst
              obtain ⟨⟨D5, tb5, tv5, hst5⟩, hr5⟩ := hI
              refine StepI.call (f := 42) (args := #[.pointer (some ⟨q.fb i, 0, none⟩), .pointer (some ⟨tc, 0, none⟩)]) rfl rfl (by go_simp) ?_
              refine (twin_any w1 _ q S B tg tc D5 tb5 tv5 (HA.out.below hst5.low) hst5.tw hst5.ctc hst5.szB i HLV.out (by have := hst5.ord; omega) (fun k hk => by have := hst5.ord; omega) (fun x hx => HSZ.out i x hx)).mono ?_
              rintro e w5 ⟨D6, tb6, tv6, rfl, hi6, ht6, hs6, hc6, hn6⟩
              exact ⟨_, rfl, trivial, ⟨D6, tb6, tv6, rfl, hi6, hst5.twin ht6 hs6 hc6 hn6⟩, ranges_chg hr5 hc6 (by have := hst5.ord; have := HQN.out; omega) (by have := hst5.ord; have := HITM.out; omega)⟩
            · intro us au w1 ha hd hst hI
              have e1 := hd 1 _ (by kernel_rfl) rfl
              have e2 := hd 2 _ (by kernel_rfl) rfl
              obtain ⟨e5⟩ := hd 5 _ (by kernel_rfl) rfl
              have q51 := slot_at (t := 51) 1 ha (by kernel_rfl) (by kernel_rfl) (by kernel_rfl) e1
              have p51 := slot_norm q51
              have q52 := slot_at (t := 52) 2 ha (by kernel_rfl) (by kernel_rfl) (by kernel_rfl) e2
              have p52 := slot_norm q52
              have q55 := slot_at (t := 55) 5 ha (by kernel_rfl) (by kernel_rfl) (by kernel_rfl) (Eq.refl (us 5))
              have p55 := slot_norm q55
              clear ha hd hst
              obtain ⟨⟨D5, tb5, tv5, hv5, hi5, hst5⟩, hr5⟩ := hI
              rw [hv5] at p55
              obtain ⟨w9, hrun, hm9, hg9⟩ := MapN.put hst5.m2 (by have := HCN.out; omega) x HNX.out i
              have hc9 : Chg (fun k => k = ml) w1 w9 := Chg.of_grown hg9 (fun k hk => by injection hk with hk; exact hk.symm)
              unfold ptrV at hrun
              exact StepI.stored (w' := w9) rfl rfl (by go_simp) ⟨trivial, ⟨D5, tb5, tv5, hi5, hst5.put2 hm9 hg9 hi5⟩, ranges_chg hr5 hc9 (by have := hst5.ord; have := HQN.out; omega) (by have := hst5.ord; have := HITM.out; omega)⟩
          case done =>
            intro us w1 hI hd
            obtain ⟨⟨D9, tb9, tv9, hi9, hst9⟩, hrg9⟩ := hI
            have HST9 := Lib.hid hst9
            have HRG9 := Lib.hid hrg9
            have HLE := Lib.hid (putN_len l2 x.data.toList i)
            clear hst9 hrg9 hd
            simp only [putAll]
            go_simp
            go_wp2
            go_roundw
            case rel => exact ⟨D9, tb9, tv9, _, _, cnt1, HST9.out, HRG9.out, HCM1, Lib.hid (by have := HLE.out; have := HCN.out; have := HLT.out; omega)⟩
            case measure => rw [HRG9.out.left_eq, HRG.out.left_eq]; exact HLT.out
    · -- DONE{
      intro x c kl yd yp w3 cnt1 hkey hlx hv hat hrg1 hlt hg1 hs1 hen
      obtain rfl := strKey_lit hkey
      obtain ⟨g, hgv, hy⟩ := ptrElem_inv hv
      injection hy with hy _
      have hcg : c = g := by injection hgv with h; injection h with h; injection h
      rw [hy] at hat
      subst hcg
      obtain ⟨i, hgi, rfl⟩ := dataN_hit hat
      have hmem := (getN_some HI.out.upNow).1 hgi
      have hnx : x.size ≤ 9223372036854775807 := by
        have hk := hkey
        simp [keyOf, Try.underlying9, mapKey] at hk
        unfold maxLen at hk
        omega
      have HNX := Lib.hid hnx
      have HLV : Hid (q.lv i) := Lib.hid (HLN.out _ hmem)
      have HCM1 := Lib.hid (HCM.out.step HI.out.upNow hmem hlx)
      have hch : Chg (fun k => k = it) wr w3 := Chg.of_grown hg1 (fun k hk => by injection hk with hk; exact hk.symm)
      have HST3 : Hid (CpSt w w3 B pc tg tc mn ml q S D tb tv l1 [] (.slice none 0 0) 0) := Lib.hid (HST.out.iter HRG.out hch HITM.out)
      have HRG1 := Lib.hid hrg1
      have HLT := Lib.hid hlt
      clear hkey hlx hv hat hrg1 hgv hy hgi hmem hrg hlt hg1 hs1 hch hnx
      unfold ptrV at *
      go_upto_region 8 with go_in
      refine wp_region_ph (by kernel_rfl) [5, 6] [.span 0 1, .span 0 1, .span 0 1, .span 0 0, .span 0 0, .phase 0, .phase 1] [fun z9 => z9 = .pointer (some ⟨pc, 1, none⟩), fun z9 => z9 = .map (some mn), fun z9 => z9 = .string x, fun z9 => z9 = .func (Fn.func 42) #[] #[.pointer (some ⟨tc, 0, none⟩)], fun z9 => z9 = .pointer (some ⟨q.fb i, 0, none⟩), fun _ => True, fun _ => True] (CpI w B pc tg tc mn ml q S l1 [] (putN l1 x.data.toList i) [] (.slice none 0 0) 0 i (fun W => W.ranges Try.prog 9 ptrElem q.mn it S.now.length (dataN q.fb S.now) (fun z => left z && !z.sameKey (.string x.data.toList)) cnt1)) (by kernel_rfl) (by kernel_rfl) (by kernel_rfl) (by kernel_rfl) (by kernel_rfl) (by kernel_rfl) rfl rfl ((show (∃ D tb tv, CpSt w w3.drew B pc tg tc mn ml q S D tb tv l1 [] (.slice none 0 0) 0) ∧ _ from ⟨⟨D, tb, tv, HST3.out.drew⟩, HRG1.out⟩)) ?steps ?done
      case steps =>
        refine ⟨?_, ?_, ?_, ?_, ?_, ?_, ?_, trivial⟩
        · intro us au w1 k0 hlo hhi ha hd hst hI
          have q3 := slot_far (t := 3) (v := .pointer (some ⟨pc, 0, none⟩)) ha (by kernel_rfl) (by kernel_rfl)
          have p3 := slot_norm q3
          clear ha hd hst
          exact StepI.pure (v := .pointer (some ⟨pc, 1, none⟩)) rfl rfl (by go_simp) ⟨rfl, hI⟩
        · intro us au w1 k1 hlo hhi ha hd hst hI
          have e0 := hd 0 _ (by kernel_rfl) rfl
          have q34 := slot_at (t := 34) 0 ha (by kernel_rfl) (by kernel_rfl) (by kernel_rfl) e0
          have p34 := slot_norm q34
          clear ha hd hst
          have kk : w1.cell? ⟨pc, 1, none⟩ = some (.map (some mn)) := CpI.cel1 hI
          exact StepI.pure (v := .map (some mn)) rfl rfl (by go_simp) ⟨rfl, hI⟩
        · intro us au w1 k2 hlo hhi ha hd hst hI
          have q6 := slot_far (t := 6) (v := .string x) ha (by kernel_rfl) (by kernel_rfl)
          have p6 := slot_norm q6
          clear ha hd hst
          exact StepI.pure (v := .string x) rfl rfl (by go_simp) ⟨rfl, hI⟩
        · intro us au w1 k3 hlo hhi ha hd hst hI
          obtain rfl : k3 = 0 := by omega
          have q5 := slot_far (t := 5) (v := .func (Fn.func 42) #[] #[.pointer (some ⟨tc, 0, none⟩)]) ha (by kernel_rfl) (by kernel_rfl)
          have p5 := slot_norm q5
          clear ha hd hst
          exact StepI.pure (v := .func (Fn.func 42) #[] #[.pointer (some ⟨tc, 0, none⟩)]) rfl rfl (by go_simp) ⟨rfl, hI⟩
        · intro us au w1 k4 hlo hhi ha hd hst hI
          obtain rfl : k4 = 0 := by omega
          have q7 := slot_far (t := 7) (v := .pointer (some ⟨q.fb i, 0, none⟩)) ha (by kernel_rfl) (by kernel_rfl)
          have p7 := slot_norm q7
          clear ha hd hst
          exact StepI.pure (v := .pointer (some ⟨q.fb i, 0, none⟩)) rfl rfl (by go_simp) ⟨rfl, hI⟩
        · intro us au w1 ha hd hst hI
          have e3 := hd 3 _ (by kernel_rfl) rfl
          have e4 := hd 4 _ (by kernel_rfl) rfl
          have q37 := slot_at (t := 37) 3 ha (by kernel_rfl) (by kernel_rfl) (by kernel_rfl) e3
          have p37 := slot_norm q37
          have q38 := slot_at (t := 38) 4 ha (by kernel_rfl) (by kernel_rfl) (by kernel_rfl) e4
          have p38 := slot_norm q38
          clear ha hd hst
          obtain ⟨⟨D5, tb5, tv5, hst5⟩, hr5⟩ := hI
          refine StepI.call (f := 42) (args := #[.pointer (some ⟨q.fb i, 0, none⟩), .pointer (some ⟨tc, 0, none⟩)]) rfl rfl (by go_simp) ?_
          refine (twin_any w1 _ q S B tg tc D5 tb5 tv5 (HA.out.below hst5.low) hst5.tw hst5.ctc hst5.szB i HLV.out (by have := hst5.ord; omega) (fun k hk => by have := hst5.ord; omega) (fun x hx => HSZ.out i x hx)).mono ?_
          rintro e w5 ⟨D6, tb6, tv6, rfl, hi6, ht6, hs6, hc6, hn6⟩
          exact ⟨_, rfl, trivial, ⟨D6, tb6, tv6, rfl, hi6, hst5.twin ht6 hs6 hc6 hn6⟩, ranges_chg hr5 hc6 (by have := hst5.ord; have := HQN.out; omega) (by have := hst5.ord; have := HITM.out; omega)⟩
        · intro us au w1 ha hd hst hI
          have e1 := hd 1 _ (by kernel_rfl) rfl
          have e2 := hd 2 _ (by kernel_rfl) rfl
          obtain ⟨e5⟩ := hd 5 _ (by kernel_rfl) rfl
          have q35 := slot_at (t := 35) 1 ha (by kernel_rfl) (by kernel_rfl) (by kernel_rfl) e1
          have p35 := slot_norm q35
          have q36 := slot_at (t := 36) 2 ha (by kernel_rfl) (by kernel_rfl) (by kernel_rfl) e2
          have p36 := slot_norm q36
          have q39 := slot_at (t := 39) 5 ha (by kernel_rfl) (by kernel_rfl) (by kernel_rfl) (Eq.refl (us 5))
          have p39 := slot_norm q39
          clear ha hd hst
          obtain ⟨⟨D5, tb5, tv5, hv5, hi5, hst5⟩, hr5⟩ := hI
          rw [hv5] at p39
          obtain ⟨w9, hrun, hm9, hg9⟩ := MapN.put hst5.m1 (by have := HCN.out; omega) x HNX.out i
          have hc9 : Chg (fun k => k = mn) w1 w9 := Chg.of_grown hg9 (fun k hk => by injection hk with hk; exact hk.symm)
          unfold ptrV at hrun
          exact StepI.stored (w' := w9) rfl rfl (by go_simp) ⟨trivial, ⟨D5, tb5, tv5, hi5, hst5.put1 hm9 hg9 hi5⟩, ranges_chg hr5 hc9 (by have := hst5.ord; have := HQN.out; omega) (by have := hst5.ord; have := HITM.out; omega)⟩
      case done =>
        intro us w1 hI hd
        obtain ⟨⟨D9, tb9, tv9, hi9, hst9⟩, hrg9⟩ := hI
        have HST9 := Lib.hid hst9
        have HRG9 := Lib.hid hrg9
        have HLE := Lib.hid (putN_len l1 x.data.toList i)
        clear hst9 hrg9 hd
        simp only [putAll]
        go_simp
        go_wp2
        go_roundw
        case rel => exact ⟨D9, tb9, tv9, _, _, cnt1, HST9.out, HRG9.out, HCM1, Lib.hid (by have := HLE.out; have := HCN.out; have := HLT.out; omega)⟩
        case measure => rw [HRG9.out.left_eq, HRG.out.left_eq]; exact HLT.out
end Go.Proofs.Ytmoaabjiokjjlaa
