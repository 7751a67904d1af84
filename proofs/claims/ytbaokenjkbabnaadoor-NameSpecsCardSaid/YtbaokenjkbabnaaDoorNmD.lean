/- name.Valid. -/
import Derived.Test.YtbaokenjkbabnaaDoorNmC
import Derived.Lib.OthersKept
namespace Go.Proofs.YtbaokenjkbabnaaDoor
open Go.RowKit
set_option linter.unusedVariables false

/-- What the walks ask of the library's own variables. -/
structure Env (w : World) : Prop where
  tabs : Lib.Utf8Tabs 0 1 w
  ml : ∃ m : Int, w.cell? ⟨2, 0, none⟩ = some (.int .i64 m)
theorem Env.below {w w' : World} (h : Env w) (hb : Below w.heap.size w w') : Env w' := by
  refine ⟨Utf8Tabs_below h.tabs hb, ?_⟩
  obtain ⟨m, hm⟩ := h.ml
  exact ⟨m, (hb.cell (p := ⟨2, 0, none⟩) (World.block_lt_of_cell? w _ hm)).trans hm⟩
/-- The pieces of Split, in memory. -/
theorem split_cells (s : ByteArray) : ∃ (Ps : List ByteArray) (n : Nat), Lib.splitB ⟨#[47]⟩ 0 (Lib.countB s ⟨#[47]⟩) s = Ps ∧ Lib.countB s ⟨#[47]⟩ + 1 = n ∧ Ps.length = n ∧ Ps.map (fun b => b.data.toList) = partsL s.data.toList ∧ n ≤ s.size + 1 := by
  refine ⟨_, _, rfl, rfl, Lib.splitB_all ⟨#[47]⟩ (by decide) 0 _ s rfl, ?_, Nat.succ_le_succ (Lib.countB_le ⟨#[47]⟩ (by decide) s.size s (Nat.le_refl _))⟩
  rw [← split_slash]
  exact Lib.splitB_data ⟨#[47]⟩ 0 _ s
theorem part_tests (p : ByteArray) : partB p.data.toList = (p.toList.isEmpty || (decide (0 < p.size) && (p.get! 0 == 46)) || Lib.hasSuffix p.data.toList [46, 108, 111, 99, 107]) := by
  unfold partB
  rw [Lib.toList_data]
  congr 2
  by_cases h : 0 < p.size
  · have := get_toList p 0 h
    rw [List.head?_eq_getElem?, this, decide_eq_true h, Bool.true_and]
    rfl
  · have : p.data.toList = [] := List.eq_nil_of_length_eq_zero (by rw [← Lib.size_eq]; omega)
    rw [this, decide_eq_false h]
    rfl
theorem vn_valid {l : List UInt8} (h : Lib.validD l = false) : validN l = false := by simp [validN, h]
theorem vn_long {l : List UInt8} (h : ¬ l.length ≤ 100) : validN l = false := by simp [validN, h]
theorem vn_pre {l : List UInt8} (h : Lib.hasPrefix l [114, 101, 102, 115, 47] = false) : validN l = false := by simp [validN, h]
theorem vn_bad {l : List UInt8} (h : l.any badB = true) : validN l = false := by simp [validN, h]
theorem vn_part {l : List UInt8} (h : (partsL l).any partB = true) : validN l = false := by simp [validN, h]
theorem vn_dots {l : List UInt8} (h : dotsB l = true) : validN l = false := by simp [validN, h]
theorem vn_end {l : List UInt8} (h : Lib.hasSuffix l [46] = true) : validN l = false := by simp [validN, h]
theorem vn_good {l : List UInt8} (h1 : Lib.validD l = true) (h2 : l.length ≤ 100) (h3 : Lib.hasPrefix l [114, 101, 102, 115, 47] = true) (h4 : l.any badB = false) (h5 : (partsL l).any partB = false) (h6 : dotsB l = false) (h7 : Lib.hasSuffix l [46] = false) : validN l = true := by
  simp [validN, h1, h2, h3, h4, h5, h6, h7]
theorem any_at {α : Type} (p : α → Bool) (l : List α) (k : Nat) (h : k < l.length) : (l.drop k).any p = (p (l[k]) || (l.drop (k + 1)).any p) := by
  rw [List.drop_eq_getElem_cons h, List.any_cons]
def VPost (s : ByteArray) (w : World) (e : Ending) (w' : World) : Prop := e = .returned (.bool (validN s.data.toList)) ∧ Below w.heap.size w w'

set_option maxRecDepth 100000 in
set_option maxHeartbeats 2000000 in
theorem valid_any (s : ByteArray) (w : World) (hE : Env w) (hs : s.size ≤ 140737488355328) :
    Calls Tryd.prog 11 #[.string s] w (VPost s w) := by
  have hv := Any.utf8_ValidString Tryd.lays196 s w (by omega) hE.tabs
  have hv : Calls Tryd.prog 25 #[.string s] w fun e w' => e = .returned (.bool (Lib.validD s.data.toList)) ∧ Below w.heap.size w w' := hv
  by_cases h1 : Lib.validD s.data.toList = true
  · rw [h1] at hv
    by_cases h2 : s.size ≤ 100
    · have q2 : decide ((100 : Int) < (s.size : Int)) = false := decide_eq_false (by omega)
      have q2' : decide (100 < s.size) = false := decide_eq_false (by omega)
      have hpre : ∀ w', Calls Tryd.prog 26 #[.string s, .string ⟨#[114, 101, 102, 115, 47]⟩] w' fun e w'' => e = .returned (.bool (Lib.hasPrefix s.data.toList [114, 101, 102, 115, 47])) ∧ w' = w'' := fun w' => (Tryd.strings_HasPrefix s ⟨#[114, 101, 102, 115, 47]⟩ w').mono fun _ _ ⟨a, b⟩ => ⟨a, b.symm⟩
      by_cases h3 : Lib.hasPrefix s.data.toList [114, 101, 102, 115, 47] = true
      · rw [h3] at hpre
        have HPRE := Lib.hid hpre
        have H1 := Lib.hid h1
        have H3 := Lib.hid h3
        clear hpre h1 h3
        go_enter Tryd.func11, Tryd.ntmps11
        go_wp2_with (first
          | (go_at_call 25; refine hv.mono ?_; rintro e w1 ⟨rfl, hb1⟩)
          | (go_at_call 26; refine (HPRE.out _).mono ?_; rintro e w2 ⟨rfl, rfl⟩))
        clear hv
        have hB0 : Below w.heap.size w (w1.iter s 0) := hb1.alloc hb1.size _
        have hi0 : (w1.iter s 0).heap[w1.heap.size]? = some (.stringIter s 0) := heap_alloc_new w1 _
        have hk0 : w.heap.size ≤ w1.heap.size := hb1.size
        generalize hkk : w1.heap.size = kk at *
        generalize w1.iter s 0 = w0 at *
        clear hkk hb1
        go_loopw [4] (fun _ wr => ∃ pos : Nat, wr.heap[kk]? = some (.stringIter s pos) ∧ Below w.heap.size w wr ∧ (s.data.toList.drop pos).any badB = s.data.toList.any badB) (fun _ wr => s.size - wr.iterPos kk)
        case atStart => exact ⟨0, hi0, hB0, by rw [List.drop_zero]⟩
        case round =>
          obtain ⟨pos, hit, hB, hany⟩ := hrel
          clear hi0 hB0
          have HANY := Lib.hid hany
          clear hany
          by_cases hp : pos < s.size
          · obtain ⟨r, hr⟩ : ∃ r, (Utf8.decode s pos).1 = r := ⟨_, rfl⟩
            obtain ⟨m, hm⟩ : ∃ m, (Utf8.decode s pos).2 = m := ⟨_, rfl⟩
            have hm1 : 1 ≤ m := by rw [← hm]; exact Lib.decode_width_pos s pos hp
            have hnx : ∀ ty, (Instr.next (.pointer (some ⟨kk, 0, none⟩)) true ty).run Tryd.prog wr = .ok (.tuple #[.bool true, .int .i64 pos, .int .i32 r]) (wr.iterAt kk s (pos + m)) := fun ty => by rw [Lib.run_next_any_at (P := Tryd.prog) wr kk s pos ty hit hp, hr, hm]
            have hit2 := Lib.iterAt_heap wr kk s pos (pos + m) hit
            have hB2 : Below w.heap.size w (wr.iterAt kk s (pos + m)) := Lib.below_iterAt hB hk0 s (pos + m)
            have hkk : kk < (wr.iterAt kk s (pos + m)).heap.size := by
              rw [Lib.iterAt_size]
              exact (Array.getElem?_eq_some_iff.1 hit).1
            by_cases ha : (s.get! pos).toNat < 128
            · obtain ⟨b1, b2, b3⟩ := bad_low s pos hp ha
              rw [hr] at b2
              rw [hm] at b3 b1
              clear hr hm
              subst b3
              have hcr := containsRune_low (s.get! pos) (wr.iterAt kk s (pos + 1)) ha
              rw [← b2] at hcr
              by_cases hbad : badB (s.get! pos) = true
              · have HF := Lib.hid (vn_bad (l := s.data.toList) (by rw [← HANY.out, b1, hbad]; rfl))
                by_cases c1 : r < 33
                · have q1 : decide ((r : Int) < 33) = true := decide_eq_true (by omega)
                  clear b1 b2 hbad hcr
                  go_wp2
                  go_ret
                  unfold VPost
                  rw [HF.out]
                  exact ⟨rfl, hB2⟩
                · have q1 : decide ((r : Int) < 33) = false := decide_eq_false (by omega)
                  by_cases c2 : r = 127
                  · have q3 : ((r : Int) == 127) = true := by rw [c2]; rfl
                    clear b1 b2 hbad hcr c2
                    go_wp2
                    go_ret
                    unfold VPost
                    rw [HF.out]
                    exact ⟨rfl, hB2⟩
                  · have q3 : ((r : Int) == 127) = false := by rw [beq_eq_false_iff_ne]; omega
                    have hc : [126, 94, 58, 63, 42, 91, 92].contains (s.get! pos) = true := by
                      unfold badB at hbad
                      rw [← b2, decide_eq_false c1, Bool.false_or, show (s.get! pos == 127) = false by rw [beq_eq_false_iff_ne]; intro h; rw [h] at b2; exact c2 b2, Bool.false_or] at hbad
                      exact hbad
                    rw [hc] at hcr
                    clear b1 b2 hbad c2 hc
                    go_wp2_with (go_at_call 27; refine hcr.mono ?_; rintro e w' ⟨rfl, rfl⟩)
                    go_ret
                    unfold VPost
                    rw [HF.out]
                    exact ⟨rfl, hB2⟩
              · have hbf : badB (s.get! pos) = false := by simpa using hbad
                have hbf2 := hbf
                unfold badB at hbf2
                rw [Bool.or_eq_false_iff, Bool.or_eq_false_iff] at hbf2
                obtain ⟨⟨x1, x2⟩, x3⟩ := hbf2
                rw [x3] at hcr
                have x1 := of_decide_eq_false x1
                have q1 : decide ((r : Int) < 33) = false := decide_eq_false (by omega)
                have q3 : ((r : Int) == 127) = false := by
                  rw [beq_eq_false_iff_ne]
                  intro h
                  rw [beq_eq_false_iff_ne] at x2
                  exact x2 (UInt8.toNat_inj.1 (by rw [← b2]; show r = 127; omega))
                have HN := Lib.hid (show (s.data.toList.drop (pos + 1)).any badB = s.data.toList.any badB by rw [← HANY.out, b1, hbf]; rfl)
                clear b1 b2 hbad hbf x1 x2 x3
                go_wp2_with (go_at_call 27; refine hcr.mono ?_; rintro e w' ⟨rfl, rfl⟩)
                go_roundw
                case rel => exact ⟨pos + 1, hit2, hB2, HN.out⟩
                case measure =>
                  rw [World.iterPos, World.iterPos, hit, hit2]
                  simp
                  omega
            · obtain ⟨b1, b2⟩ := bad_high s pos hp (by omega)
              rw [hr] at b2
              rw [hm] at b1
              have hr2 : r ≤ 1114111 := by rw [← hr]; exact Lib.rune_le s pos
              clear hr hm
              have hcr := containsRune_high r (wr.iterAt kk s (pos + m)) b2 hr2
              have q1 : decide ((r : Int) < 33) = false := decide_eq_false (by omega)
              have q3 : ((r : Int) == 127) = false := by rw [beq_eq_false_iff_ne]; omega
              have HN := Lib.hid (show (s.data.toList.drop (pos + m)).any badB = s.data.toList.any badB by rw [← HANY.out, b1])
              clear b1
              go_wp2_with (go_at_call 27; refine hcr.mono ?_; rintro e w5 ⟨rfl, hb5⟩)
              have hit5 : w5.heap[kk]? = some (.stringIter s (pos + m)) := (hb5.block kk hkk).trans hit2
              go_roundw
              case rel => exact ⟨pos + m, hit5, hB2.trans (hb5.mono hB2.size), HN.out⟩
              case measure =>
                rw [World.iterPos, World.iterPos, hit, hit5]
                simp
                omega
          · have hnx := fun ty => Lib.run_next_end_at (P := Tryd.prog) wr kk s pos ty hit hp
            have H4 := Lib.hid (show s.data.toList.any badB = false by rw [← HANY.out, List.drop_eq_nil_of_le (by rw [← Lib.size_eq]; omega)]; rfl)
            obtain ⟨Ps, NN, hPs, hNN, hPl, hPd, hNs⟩ := split_cells s
            obtain ⟨ml, hml⟩ := (hE.below hB).ml
            have hsp := Tryd.strings_Split s ⟨#[47]⟩ ml wr (by omega) hml (by decide)
            rw [hPs, hNN] at hsp
            have HPl := Lib.hid hPl
            have HPd := Lib.hid hPd
            clear HANY hml hNN hPs hPl hPd
            go_wp2_with (go_at_call 28; refine hsp.mono ?_; rintro e w3 ⟨rfl, rfl⟩)
            have hB4 : Below w.heap.size w (wr.alloc (.cells (Ps.map Value.string).toArray 9)) := hB.alloc hB.size _
            have hcell0 : ∀ j, (hj : j < Ps.length) → (wr.alloc (.cells (Ps.map Value.string).toArray 9)).cell? ⟨wr.heap.size, j, none⟩ = some (.string Ps[j]) := fun j hj => by
              rw [cell_of_row _ _ j _ _ (0, 0) (heap_alloc_new wr _)]
              simp [hj]
            have HC := Lib.hid hcell0
            clear hcell0 hsp hit hB hnx
            generalize wr.alloc (.cells (Ps.map Value.string).toArray 9) = w4 at *
            generalize wr.heap.size = pb at *
            have hend : ∀ w', Calls Tryd.prog 29 #[.string s, .string ⟨#[46]⟩] w' fun e w'' => e = .returned (.bool (Lib.hasSuffix s.data.toList [46])) ∧ w' = w'' := fun w' => (Tryd.strings_HasSuffix s ⟨#[46]⟩ w' (by omega)).mono fun _ _ ⟨a, b⟩ => ⟨a, b.symm⟩
            go_loop [38] (fun i => ∃ k : Nat, k ≤ NN ∧ i = .int .i64 k ∧ ((partsL s.data.toList).drop k).any partB = (partsL s.data.toList).any partB) (fun i => NN - (intOf i).toNat)
            case atStart => exact ⟨0, Nat.zero_le _, rfl, by rw [List.drop_zero]⟩
            case round =>
              obtain ⟨k, hk, rfl, hany⟩ := hrel
              have HA := Lib.hid hany
              clear hany
              by_cases hlt : k < NN
              · have d1 : decide (k < NN) = true := decide_eq_true hlt
                have hkl : k < Ps.length := by rw [HPl.out]; exact hlt
                have hkl2 : k < (partsL s.data.toList).length := by rw [← HPd.out, List.length_map]; exact hkl
                have hc := HC.out k hkl
                obtain ⟨p, hp⟩ : ∃ p, Ps[k] = p := ⟨_, rfl⟩
                rw [hp] at hc
                have hpk : (partsL s.data.toList)[k] = p.data.toList := by
                  have : (Ps.map (fun b => b.data.toList))[k]'(by rw [List.length_map]; exact hkl) = p.data.toList := by rw [List.getElem_map, hp]
                  rw [← this]
                  congr 1
                  exact HPd.out.symm
                have hst := any_at partB (partsL s.data.toList) k hkl2
                rw [hpk, part_tests p] at hst
                have hps : p.size ≤ 100 := by
                  have := partsL_le s.data.toList p.data.toList (by rw [← hpk]; exact List.getElem_mem hkl2)
                  rw [← Lib.size_eq, ← Lib.size_eq] at this
                  omega
                have hsuf : ∀ w', Calls Tryd.prog 29 #[.string p, .string ⟨#[46, 108, 111, 99, 107]⟩] w' fun e w'' => e = .returned (.bool (Lib.hasSuffix p.data.toList [46, 108, 111, 99, 107])) ∧ w' = w'' := fun w' => (Tryd.strings_HasSuffix p ⟨#[46, 108, 111, 99, 107]⟩ w' (by omega)).mono fun _ _ ⟨a, b⟩ => ⟨a, b.symm⟩
                clear hp hpk
                by_cases t1 : p.size = 0
                · have q1 : p.toList = [] := by
                    rw [Lib.toList_data]
                    exact List.eq_nil_of_length_eq_zero (by rw [← Lib.size_eq]; exact t1)
                  have q1' : p.toList.isEmpty = true := by rw [q1]; rfl
                  have HF := Lib.hid (vn_part (l := s.data.toList) (by rw [← HA.out, hst, q1]; rfl))
                  clear hst hsuf
                  go_wp2
                  go_ret
                  unfold VPost
                  rw [HF.out]
                  exact ⟨rfl, hB4⟩
                · have h0 : 0 < p.size := by omega
                  have h0i : (0 : Int) < (p.size : Int) := by omega
                  have q1 : p.toList.isEmpty = false := by
                    rw [Lib.toList_data, List.isEmpty_eq_false_iff]
                    intro h
                    rw [Lib.size_eq, h] at h0
                    exact absurd h0 (by decide)
                  have q1' : (!p.toList.isEmpty) = true := by rw [q1]; rfl
                  have hg : p.get! 0 = p[0] := by have := get_at p 0 h0; rwa [Nat.add_zero] at this
                  rw [q1, decide_eq_true h0, hg, Bool.false_or, Bool.true_and] at hst
                  by_cases t2 : p[0] = 46
                  · have q2 : ((p[0].toNat : Int) == 46) = true := by rw [t2]; rfl
                    have HF := Lib.hid (vn_part (l := s.data.toList) (by rw [← HA.out, hst, t2]; rfl))
                    clear hst hsuf
                    go_wp2
                    go_ret
                    unfold VPost
                    rw [HF.out]
                    exact ⟨rfl, hB4⟩
                  · have q2 : ((p[0].toNat : Int) == 46) = false := by
                      rw [beq_eq_false_iff_ne]; intro h
                      exact t2 (UInt8.toNat_inj.1 (by show p[0].toNat = 46; omega))
                    have t2' : (p[0] == 46) = false := by simpa using t2
                    rw [t2', Bool.false_or] at hst
                    by_cases t3 : Lib.hasSuffix p.data.toList [46, 108, 111, 99, 107] = true
                    · have HF := Lib.hid (vn_part (l := s.data.toList) (by rw [← HA.out, hst, t3]; rfl))
                      rw [t3] at hsuf
                      clear hst t3
                      go_wp2_with (go_at_call 29; refine (hsuf _).mono ?_; rintro e w' ⟨rfl, rfl⟩)
                      go_ret
                      unfold VPost
                      rw [HF.out]
                      exact ⟨rfl, hB4⟩
                    · have t3' : Lib.hasSuffix p.data.toList [46, 108, 111, 99, 107] = false := by simpa using t3
                      have HN := Lib.hid (show ((partsL s.data.toList).drop (k + 1)).any partB = (partsL s.data.toList).any partB by rw [← HA.out, hst, t3']; rfl)
                      rw [t3'] at hsuf
                      clear hst t3 t3'
                      go_wp2_with (go_at_call 29; refine (hsuf _).mono ?_; rintro e w' ⟨rfl, rfl⟩)
                      go_round
                      case rel => exact ⟨k + 1, by omega, by go_num, HN.out⟩
                      case measure => simp [intOf]; omega
              · have d1 : decide (k < NN) = false := decide_eq_false hlt
                have H5 := Lib.hid (show (partsL s.data.toList).any partB = false by
                  rw [← HA.out, List.drop_eq_nil_of_le (by have h1 := HPl.out; rw [← HPd.out, List.length_map]; omega)]
                  rfl)
                obtain ⟨m4, hm4⟩ := (hE.below hB4).ml
                have hc1 : ∀ (x y : UInt8), Calls Tryd.prog 30 #[.string s, .string ⟨#[x, y]⟩] w4 fun e w' => e = .returned (.bool (Lib.contains s.data.toList [x, y])) ∧ w4 = w' := fun x y => (Tryd.strings_Contains s ⟨#[x, y]⟩ m4 w4 (by omega) hm4).mono fun _ _ ⟨a, b⟩ => ⟨a, b.symm⟩
                have hd1 := hc1 46 46
                have hd2 := hc1 64 123
                have hde := hend w4
                have hdots := dots_contains s.data.toList
                clear hc1 hend hm4
                by_cases t1 : Lib.contains s.data.toList [46, 46] = true
                · have HF := Lib.hid (vn_dots (l := s.data.toList) (by rw [hdots, t1]; rfl))
                  rw [t1] at hd1
                  clear hdots t1
                  go_wp2_with (go_at_call 30; refine hd1.mono ?_; rintro e w' ⟨rfl, rfl⟩)
                  go_ret
                  unfold VPost
                  rw [HF.out]
                  exact ⟨rfl, hB4⟩
                · have t1' : Lib.contains s.data.toList [46, 46] = false := by simpa using t1
                  rw [t1'] at hd1 hdots
                  rw [Bool.false_or] at hdots
                  by_cases t2 : Lib.contains s.data.toList [64, 123] = true
                  · have HF := Lib.hid (vn_dots (l := s.data.toList) (by rw [hdots, t2]))
                    rw [t2] at hd2
                    clear hdots t1 t1' t2
                    go_wp2_with fail
                    refine hd1.mono ?_
                    rintro e w' ⟨rfl, rfl⟩
                    go_wp2_with fail
                    refine hd2.mono ?_
                    rintro e w' ⟨rfl, rfl⟩
                    go_wp2
                    go_ret
                    unfold VPost
                    rw [HF.out]
                    exact ⟨rfl, hB4⟩
                  · have t2' : Lib.contains s.data.toList [64, 123] = false := by simpa using t2
                    rw [t2'] at hd2 hdots
                    by_cases t3 : Lib.hasSuffix s.data.toList [46] = true
                    · have HF := Lib.hid (vn_end (l := s.data.toList) t3)
                      rw [t3] at hde
                      clear hdots t1 t1' t2 t2' t3
                      go_wp2_with fail
                      refine hd1.mono ?_
                      rintro e w' ⟨rfl, rfl⟩
                      go_wp2_with fail
                      refine hd2.mono ?_
                      rintro e w' ⟨rfl, rfl⟩
                      go_wp2_with fail
                      refine hde.mono ?_
                      rintro e w' ⟨rfl, rfl⟩
                      go_wp2
                      go_ret
                      unfold VPost
                      rw [HF.out]
                      exact ⟨rfl, hB4⟩
                    · have t3' : Lib.hasSuffix s.data.toList [46] = false := by simpa using t3
                      have HF := Lib.hid (vn_good (l := s.data.toList) H1.out (by rw [← Lib.size_eq]; exact h2) H3.out H4.out H5.out hdots t3')
                      rw [t3'] at hde
                      clear hdots t1 t1' t2 t2' t3 t3'
                      go_wp2_with fail
                      refine hd1.mono ?_
                      rintro e w' ⟨rfl, rfl⟩
                      go_wp2_with fail
                      refine hd2.mono ?_
                      rintro e w' ⟨rfl, rfl⟩
                      go_wp2_with fail
                      refine hde.mono ?_
                      rintro e w' ⟨rfl, rfl⟩
                      go_wp2
                      go_ret
                      unfold VPost
                      rw [HF.out]
                      exact ⟨rfl, hB4⟩
      · have h3' : Lib.hasPrefix s.data.toList [114, 101, 102, 115, 47] = false := by simpa using h3
        rw [h3'] at hpre
        have HF := Lib.hid (vn_pre h3')
        clear h1 h3 h3'
        go_enter Tryd.func11, Tryd.ntmps11
        go_wp2_with (first
          | (go_at_call 25; refine hv.mono ?_; rintro e w1 ⟨rfl, hb1⟩)
          | (go_at_call 26; refine (hpre _).mono ?_; rintro e w2 ⟨rfl, rfl⟩))
        go_ret
        unfold VPost
        rw [HF.out]
        exact ⟨rfl, hb1⟩
    · have q2 : decide ((100 : Int) < (s.size : Int)) = true := decide_eq_true (by omega)
      have q2' : decide (100 < s.size) = true := decide_eq_true (by omega)
      have HF := Lib.hid (vn_long (l := s.data.toList) (by rw [← Lib.size_eq]; exact h2))
      clear h1
      go_enter Tryd.func11, Tryd.ntmps11
      go_wp2_with (go_at_call 25; refine hv.mono ?_; rintro e w1 ⟨rfl, hb1⟩)
      go_ret
      unfold VPost
      rw [HF.out]
      exact ⟨rfl, hb1⟩
  · have h1' : Lib.validD s.data.toList = false := by simpa using h1
    rw [h1'] at hv
    have HF := Lib.hid (vn_valid h1')
    clear h1 h1'
    go_enter Tryd.func11, Tryd.ntmps11
    go_wp2_with (go_at_call 25; refine hv.mono ?_; rintro e w1 ⟨rfl, hb1⟩)
    go_ret
    unfold VPost
    rw [HF.out]
    exact ⟨rfl, hb1⟩
end Go.Proofs.YtbaokenjkbabnaaDoor
