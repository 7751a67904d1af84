/- The names that begin so: List. -/
import Derived.Test.YtmoaabjiokjjlaaFsL
namespace Go.Proofs.Ytmoaabjiokjjlaa
open Go.RowKit Go.Maps
set_option linter.unusedVariables false
set_option linter.unusedSimpArgs false

def keepL (d : Bool) (p : Nm) (l : List Nm) : List Nm := if d then [] else l.filter fun s => p.isPrefixOf s
theorem listF_keep (S : Fs) (p : Nm) : listF S p = keepL S.dead p (nmL S.now) := rfl
theorem keepL_succ {d : Bool} {p : Nm} {l : List Nm} {k : Nat} {s : Nm} (h : l[k]? = some s) : keepL d p (l.take (k + 1)) = keepL d p (l.take k) ++ (if !d && p.isPrefixOf s then [s] else []) := by
  unfold keepL
  rw [List.take_add_one, h]
  cases d
  · simp only [Bool.false_eq_true, if_false, Option.toList_some, List.filter_append, Bool.not_false, Bool.true_and]
    congr 1
    rw [List.filter_cons]
    split <;> simp
  · simp
theorem keepL_len (d : Bool) (p : Nm) (l : List Nm) : (keepL d p l).length ≤ l.length := by
  unfold keepL
  split
  · simp
  · exact List.length_filter_le _ _
theorem nmVs_len (l : List Nm) : (nmVs l).length = l.length := by unfold nmVs; simp
theorem nmVs_app (a b : List Nm) : nmVs (a ++ b) = nmVs a ++ nmVs b := by unfold nmVs; simp
theorem nmVs_one (s : Nm) : nmVs [s] = [.string (bkN s)] := rfl
theorem info_str' : (Try.prog.info? 9).map (fun i => (i.zero, i.size, i.bytes)) = some (some (.string ⟨#[]⟩), 1, 16) := by kernel_rfl
theorem OwnS.clip1 {w : World} {base : Nat} {e : TypeId} {A : Option Addr} {n c : Nat} {xs : List Value} (h : OwnS w base e 1 (.slice A n c) n xs) : OwnS w base e 1 (.slice A n n) n xs := h.clip
set_option maxRecDepth 100000 in
theorem clipS_any (A : Option Addr) (n c : Nat) (w : World) (hn : n ≤ c) (hc : c ≤ 9223372036854775807) :
    Calls Try.prog 40 #[.slice A n c] w fun e w' => e = .returned (.slice A n n) ∧ w = w' := by
  have h0 : (n : Int) ≤ c := by omega
  go_enter Try.func40, Try.ntmps40
  go_wp2
  go_ret
  exact ⟨rfl, rfl⟩
def ListPost (S : Fs) (p : Nm) (w : World) (e : Ending) (w' : World) : Prop :=
  Below w.heap.size w w' ∧ ∃ A, e = .returned (.slice A (listF S p).length (listF S p).length) ∧ OwnS w' w.heap.size 9 1 (.slice A (listF S p).length (listF S p).length) (listF S p).length (nmVs (listF S p))
set_option maxRecDepth 100000 in
set_option maxHeartbeats 2000000 in
theorem list_any (w : World) (F : Nat → Prop) (q : Pl) (S : Fs) (N : Nat) (h : FsAt w F q S) (hI : Inv N 16777216 S) (hN : N ≤ 1000000) (p : ByteArray) :
    Calls Try.prog 13 #[ptrV q.p, .string p] w (ListPost S p.data.toList w) := by
  obtain ⟨i0, hi, hz0, hz1, hz2⟩ := info_parts info_str'
  have HSO := Lib.hid (sorted_any w F q S N h hI hN)
  have HPO : Hid (∀ e w', ListPost S p.data.toList w e w' = (Below w.heap.size w w' ∧ ∃ A, e = .returned (.slice A (listF S p.data.toList).length (listF S p.data.toList).length) ∧ OwnS w' w.heap.size 9 1 (.slice A (listF S p.data.toList).length (listF S p.data.toList).length) (listF S p.data.toList).length (nmVs (listF S p.data.toList)))) := Lib.hid (fun _ _ => rfl)
  generalize ListPost S p.data.toList w = POST at *
  have HLI := Lib.hid (listF_keep S p.data.toList)
  have HLN : Hid ((nmL S.now).length = S.now.length) := Lib.hid (by unfold nmL; rw [List.length_map])
  have hnl : S.now.length ≤ 1000000 := Nat.le_trans hI.lenNow hN
  have HH := Lib.hid h
  generalize hdd : S.dead = d at *
  have HD := Lib.hid hdd
  generalize hll : nmL S.now = L at *
  generalize hn : S.now.length = n at *
  clear h hI hdd hn hll
  unfold ptrV at *
  go_enter Try.func13, Try.ntmps13
  go_upto_region 2 with (fail)
  go_wp2_with (go_at_call 37; refine HSO.out.mono ?_; rintro e w1 ⟨A, c, rfl, ho, hb⟩; have HO := Lib.hid ho; have HB := Lib.hid hb; clear ho hb)
  go_loopw [11, 5] (fun vi vo wr => ∃ (k : Nat) (v : Value), vi = .int .i64 k ∧ v = vo ∧ k ≤ n ∧ OwnS wr w1.heap.size 9 1 v (keepL d p.data.toList (L.take k)).length (nmVs (keepL d p.data.toList (L.take k))) ∧ Below w1.heap.size w1 wr) (fun vi _ _ => n - (intOf vi).toNat)
  case atStart => exact ⟨0, _, rfl, rfl, Nat.zero_le _, by have e0 : keepL d p.data.toList (L.take 0) = [] := (by unfold keepL; cases d <;> rfl); rw [e0]; exact OwnS.nil _ _ _ _, Below.refl _ _⟩
  case round =>
    obtain ⟨k, v, rfl, rfl, hk, ho, hB⟩ := hrel
    obtain ⟨Av, cv, rfl⟩ := ho.shape
    have HBR := Lib.hid hB
    have hkl := keepL_len d p.data.toList (L.take k)
    rw [List.length_take] at hkl
    by_cases hlt : k < n
    · obtain ⟨s, hks⟩ : ∃ s, L[k]? = some s := ⟨_, List.getElem?_eq_getElem (by rw [HLN.out]; exact hlt)⟩
      obtain ⟨g, off, c', hv, hg, hgl, hcell⟩ := HO.out.cells (by rw [nmVs_len, HLN.out]; omega)
      injection hv with hA _ hcc
      have r0 : wr.cell? ⟨g, off + k, none⟩ = some (.string (bkN s)) := by
        rw [hB.cell (p := ⟨g, off + k, none⟩) hgl, hcell k (by rw [nmVs_len, HLN.out]; exact hlt)]
        unfold nmVs
        rw [List.getElem?_map, hks]
        rfl
      have c5 : wr.cell? ⟨q.p, 5, none⟩ = some (.bool d) := by
        rw [← HD.out]
        exact ((HH.out.below HB.out).below hB).c5
      have hpre := Try.strings_HasPrefix (bkN s) p wr
      rw [bkN_list] at hpre
      have HKS := Lib.hid (keepL_succ (d := d) (p := p.data.toList) hks)
      have d2 : decide ((k : Int) < (n : Int)) = true := decide_eq_true (by omega)
      have d2' : decide (k < n) = true := decide_eq_true hlt
      have HOV := Lib.hid ho
      subst hA
      subst hcc
      clear hcell hks hg hgl ho hB
      generalize hkn : (keepL d p.data.toList (L.take k)).length = kl at *
      have HKN := Lib.hid hkn
      have hm1 : kl + 1 ≤ maxLen := by unfold maxLen; omega
      have hb1 : (kl + 1) * 16 ≤ 140737488355328 := by omega
      clear hkn hkl
      cases d
      · have hpe : Lib.hasPrefix s p.data.toList = p.data.toList.isPrefixOf s := rfl
        rw [hpe] at hpre
        cases hpp : p.data.toList.isPrefixOf s
        · rw [hpp] at hpre
          have HK1 : Hid (keepL false p.data.toList (L.take (k + 1)) = keepL false p.data.toList (L.take k)) := Lib.hid (by rw [HKS.out, hpp]; simp)
          clear hpp hpe
          go_wp2_with (go_at_call 39; refine hpre.mono ?_; rintro e w2 ⟨rfl, rfl⟩)
          go_roundw
          case rel => exact ⟨k + 1, _, rfl, rfl, by omega, by rw [HK1.out, HKN.out]; exact HOV.out, HBR.out⟩
          case measure => simp [intOf]; omega
        · rw [hpp] at hpre
          have HK1 : Hid (keepL false p.data.toList (L.take (k + 1)) = keepL false p.data.toList (L.take k) ++ [s]) := Lib.hid (by rw [HKS.out, hpp]; simp)
          have hl2 : Below wr.heap.size wr (wr.alloc (.cells #[.string (bkN s)] 9)) := (Below.refl _ _).alloc (Nat.le_refl _) _
          have HO2 := Lib.hid (HOV.out.alloc (.cells #[.string (bkN s)] 9))
          have HB2 := Lib.hid (HBR.out.trans (hl2.mono HBR.out.size))
          have HSRC := Lib.hid (Src.one_new (P := Try.prog) (w := wr) (u := .string (bkN s)) (t := 9) rfl)
          have hbs : w1.heap.size ≤ (wr.alloc (.cells #[.string (bkN s)] 9)).heap.size := HB2.out.size
          clear hpp hpe hl2
          go_wp2_with (first
            | (go_at_call 39; refine hpre.mono ?_; rintro e w2 ⟨rfl, rfl⟩)
            | (at_builtin; go_loud (refine wpList_append_S rfl (.tmp 25) (.tmp 27) 31 31 rfl i0 (.string ⟨#[]⟩) 16 (.slice 9) Try.underlying31 Try.underlying31 (fun _ h => by cases h) hi hz0 hz1 hz2 rfl rfl rfl HO2.out HSRC.out hm1 hb1 hbs ?_); intro A9 c9 w9 ho9 hg9 hw9))
          have HO9 : Hid (OwnS w9 w1.heap.size 9 1 (.slice A9 (kl + 1) c9) (keepL false p.data.toList (L.take (k + 1))).length (nmVs (keepL false p.data.toList (L.take (k + 1))))) := Lib.hid (by
            rw [HK1.out, List.length_append, nmVs_app, HKN.out]
            exact ho9)
          have HB9 := Lib.hid (HB2.out.grown hg9 hbs (fun j hj => (HO2.out.lt j hj).1))
          clear ho9 hg9 hw9
          go_roundw
          case rel => exact ⟨k + 1, _, rfl, rfl, by omega, HO9.out, HB9.out⟩
          case measure => simp [intOf]; omega
      · have HK1 : Hid (keepL true p.data.toList (L.take (k + 1)) = keepL true p.data.toList (L.take k)) := Lib.hid (by rw [HKS.out]; simp)
        clear hpre
        go_wp2
        go_roundw
        case rel => exact ⟨k + 1, _, rfl, rfl, by omega, by rw [HK1.out, HKN.out]; exact HOV.out, HBR.out⟩
        case measure => simp [intOf]; omega
    · obtain rfl : k = n := by omega
      have d2 : decide ((k : Int) < (k : Int)) = false := decide_eq_false (by omega)
      have d2' : decide (k < k) = false := decide_eq_false (by omega)
      rw [List.take_of_length_le (by rw [HLN.out]; exact Nat.le_refl _), ← HLI.out] at ho
      rw [List.take_of_length_le (by rw [HLN.out]; exact Nat.le_refl _), ← HLI.out]
      have hcp := ho.cap
      have hcm := ho.capm
      have HOF := Lib.hid ho
      clear ho hB hkl
      go_wp2_with (go_at_call 40; refine (clipS_any _ _ _ _ hcp hcm).mono ?_; rintro e w9 ⟨rfl, rfl⟩)
      rw [HPO.out]
      exact ⟨HB.out.trans (HBR.out.mono HB.out.size), Av, rfl, HOF.out.clip1.base_ HB.out.size⟩
end Go.Proofs.Ytmoaabjiokjjlaa
