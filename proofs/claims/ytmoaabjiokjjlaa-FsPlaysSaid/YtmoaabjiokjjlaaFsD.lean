/- How many bytes are used: Used. -/
import Derived.Test.YtmoaabjiokjjlaaFsC
import Derived.Maps.RangeWalk
namespace Go.Proofs.Ytmoaabjiokjjlaa
open Go.RowKit Go.Maps
set_option linter.unusedVariables false
set_option linter.unusedSimpArgs false

/-- The sum of those that are no longer to come. -/
def sumLeft (g : Nat → Nat) (left : Lit → Bool) (l : Ns) : Nat := ((l.filter fun p => !left (.string p.1)).map fun p => g p.2).sum
theorem sumLeft_start (g : Nat → Nat) (l : Ns) (left : Lit → Bool) (h : ∀ p ∈ l, left (.string p.1) = true) : sumLeft g left l = 0 := by
  unfold sumLeft
  rw [List.filter_eq_nil_iff.2 fun p hp => by simp [h p hp]]
  rfl
theorem sumLeft_end (g : Nat → Nat) (l : Ns) (left : Lit → Bool) (h : ∀ kl, left kl = false) : sumLeft g left l = (l.map fun p => g p.2).sum := by
  unfold sumLeft
  rw [List.filter_eq_self.2 fun p _ => by simp [h]]
theorem sumLeft_le (g : Nat → Nat) (left : Lit → Bool) : ∀ l : Ns, sumLeft g left l ≤ (l.map fun p => g p.2).sum
  | [] => Nat.le_refl _
  | p :: r => by
    have ih := sumLeft_le g left r
    unfold sumLeft at ih ⊢
    rw [List.filter_cons]
    split
    · simp only [List.map_cons, List.sum_cons]; omega
    · simp only [List.map_cons, List.sum_cons]; omega
theorem sumLeft_off (g : Nat → Nat) (left : Lit → Bool) (s : Nm) : ∀ l : Ns, (∀ p ∈ l, p.1 ≠ s) → sumLeft g (fun z => left z && !z.sameKey (.string s)) l = sumLeft g left l := by
  intro l h
  unfold sumLeft
  congr 2
  refine List.filter_congr fun p hp => ?_
  show (!(left (.string p.1) && !(p.1 == s))) = !left (.string p.1)
  have : (p.1 == s) = false := by simpa using h p hp
  rw [this]
  simp
theorem sumLeft_step (g : Nat → Nat) (left : Lit → Bool) (s : Nm) (i : Nat) (hl : left (.string s) = true) : ∀ l : Ns, Up l → (s, i) ∈ l → sumLeft g (fun z => left z && !z.sameKey (.string s)) l = sumLeft g left l + g i
  | [], _, h => by cases h
  | p :: r, hu, h => by
    obtain ⟨h1, h2⟩ := List.pairwise_cons.1 hu
    rcases List.mem_cons.1 h with he | h
    · subst he
      have hoff := sumLeft_off g left s r (fun q hq e => by have := before_ne (h1 q hq); exact this e.symm)
      unfold sumLeft at hoff ⊢
      rw [List.filter_cons, List.filter_cons]
      have e1 : (!(left (.string s) && !(Lit.string s).sameKey (.string s))) = true := by
        rw [show (Lit.string s).sameKey (.string s) = (s == s) from rfl, beq_self_eq_true]
        simp
      have e2 : (!left (.string s)) = false := by rw [hl]; rfl
      rw [if_pos e1, if_neg (by rw [e2]; decide), List.map_cons, List.sum_cons, hoff]
      show g i + _ = _ + g i
      omega
    · have hps : p.1 ≠ s := before_ne (h1 _ h)
      have ih := sumLeft_step g left s i hl r h2 h
      unfold sumLeft at ih ⊢
      rw [List.filter_cons, List.filter_cons]
      have e1 : (fun z : Lit => left z && !z.sameKey (.string s)) (.string p.1) = left (.string p.1) := by
        show (left (.string p.1) && !(p.1 == s)) = _
        rw [show (p.1 == s) = false by simpa using hps]
        simp
      rw [e1]
      split
      · simp only [List.map_cons, List.sum_cons, ih]; omega
      · exact ih
theorem strKey_inv {key : Value} {kl : Lit} (h : keyOf Try.prog 9 key = some kl) : ∃ s : ByteArray, key = .string s := by
  have hu := Try.underlying9
  cases key <;> simp [keyOf, hu, mapKey] at h
  exact ⟨_, rfl⟩
theorem strKey_lit {s : ByteArray} {kl : Lit} (h : keyOf Try.prog 9 (.string s) = some kl) : kl = .string s.data.toList := by
  have hu := Try.underlying9
  simp [keyOf, hu, mapKey] at h
  exact h.2.symm
theorem dataN_hit {fb : Nat → Nat} {l : Ns} {s : Nm} {c : Nat} (h : ∀ zd, (dataN fb l).atKey (.string s) zd = .lit (.int .i64 (c : Int))) : ∃ i, getN l s = some i ∧ fb i = c := by
  have h1 := h .nil
  rw [dataN_at] at h1
  cases hg : getN l s with
  | none => rw [hg] at h1; cases h1
  | some i =>
    rw [hg] at h1
    have h2 : ((fb i : Nat) : Int) = c := congrArg (fun d : DataW Unit => match d with | .lit (.int _ n) => n | _ => 0) h1
    exact ⟨i, rfl, by exact_mod_cast h2⟩
theorem dataN_has {fb : Nat → Nat} {l : Ns} {p : Nm × Nat} (h : p ∈ l) : Maps.has (dataN fb l) (.string p.1) = true :=
  List.any_eq_true.2 ⟨pairD fb p, List.mem_map.2 ⟨p, h, rfl⟩, by show (p.1 == p.1) = true; simp⟩
set_option maxRecDepth 100000 in
set_option maxHeartbeats 2000000 in
theorem used_any (w : World) (F : Nat → Prop) (q : Pl) (S : Fs) (N : Nat) (h : FsAt w F q S) (hI : Inv N 16777216 S) (hN : N ≤ 1000000) :
    Calls Try.prog 16 #[ptrV q.p] w fun e w' => e = .returned (.int .i64 (usedF S)) ∧ Below w.heap.size w w' := by
  have HH := Lib.hid h
  have HI := Lib.hid hI
  have c1 := h.c1
  have hown : w.ownsMap Try.prog 9 ptrElem q.mn S.now.length (dataN q.fb S.now) := h.now
  have hub := hI.used
  have HUB : Hid (usedF S ≤ 16777216000000) := Lib.hid (Nat.le_trans hub (Nat.mul_le_mul_right _ hN))
  have HML : Hid (q.mn < w.heap.size) := Lib.hid h.now.lt
  have HUS : Hid (usedF S = (S.now.map fun p => lenF S p.2).sum) := Lib.hid rfl
  generalize usedF S = U at *
  unfold ptrV
  clear h hI hub
  go_enter Try.func16, Try.ntmps16
  go_wp2_with (first
    | (at_range; refine wpList_range_own _ rfl _ 58 rfl 9 63 strK Try.underlying58 ptrElem q.mn S.now.length _ rfl hown ?_; intro w0 hrg0 hg0 hs0)
    | go_in)
  go_frame
  have HRG := Lib.hid hrg0
  have HB0 : Hid (Below w.heap.size w w0) := Lib.hid ((Below.refl _ _).grown hg0 (Nat.le_refl _) (fun j hj => by cases hj))
  clear hrg0 hg0 c1 hown
  go_loopw [3] (fun vn wr => ∃ (n : Nat) (left : Lit → Bool) (cnt : Nat), vn = .int .i64 n ∧ wr.ranges Try.prog 9 ptrElem q.mn w.heap.size S.now.length (dataN q.fb S.now) left cnt ∧ Hid (n = sumLeft (lenF S) left S.now) ∧ Hid (Below w.heap.size w wr))
    (fun _ wr => wr.rangeLeft q.mn w.heap.size)
  case atStart => exact ⟨0, _, _, rfl, HRG.out, (sumLeft_start _ _ _ fun p hp => dataN_has hp).symm, HB0.out⟩
  case round =>
    clear HRG HB0 hs0
    obtain ⟨n, left, cnt, rfl, hrg, HS, HB⟩ := hrel
    go_wp2_with (first
      | (at_next; refine wpList_next_ranges _ rfl _ rfl 9 strK ptrElem (α := ByteArray) (β := Nat) Value.string ptrV (fun key kl hk => strKey_inv hk) (fun v y hv => by obtain ⟨g, h1, _⟩ := ptrElem_inv hv; exact ⟨g, h1⟩) q.mn w.heap.size S.now.length _ _ _ rfl hrg ?_ ?_)
      | go_in)
    · intro hc0 hl0
      have HF : Hid (n = U) := Lib.hid (by rw [HS.out, HUS.out, sumLeft_end _ _ _ hl0])
      clear hrg hl0
      go_wp2
      go_ret
      exact ⟨by rw [HF.out]; rfl, HB.out⟩
    · intro x c kl yd yp w1 cnt1 hkey hlx hv hat hrg1 hlt hg1 hs1 hen
      obtain rfl := strKey_lit hkey
      obtain ⟨g, hgv, hy⟩ := ptrElem_inv hv
      injection hy with hy _
      have hcg : c = g := by injection hgv with h; injection h with h; injection h
      rw [hy] at hat
      subst hcg
      obtain ⟨i, hgi, rfl⟩ := dataN_hit hat
      have hmem := (getN_some HI.out.upNow).1 hgi
      have hbw : Below w.heap.size w w1 := HB.out.grown hg1 HB.out.size (fun j hj => by injection hj with hj; omega)
      obtain ⟨xf, hx, hf⟩ := (HH.out.below hbw).file i (HH.out.get HI.out hgi)
      obtain ⟨A, cc, hsv⟩ := hf.own.shape
      have c0 : w1.cell? ⟨q.fb i, 0, none⟩ = some (.slice A xf.b.length cc) := (hf.cel.cell 0 (by decide)).trans (by show some (q.fv i) = _; rw [hsv])
      have hle := sumLeft_le (lenF S) (fun z => left z && !z.sameKey (.string x.data.toList)) S.now
      have hst := sumLeft_step (lenF S) left x.data.toList i hlx S.now HI.out.upNow hmem
      have hll : lenF S i = xf.b.length := by unfold lenF; rw [hx]; rfl
      have HS1 : Hid (n + xf.b.length = sumLeft (lenF S) (fun z => left z && !z.sameKey (.string x.data.toList)) S.now) := Lib.hid (by rw [hst, hll, HS.out])
      have hbd : n + xf.b.length ≤ 16777216000000 := by rw [HS1.out]; exact Nat.le_trans hle (by rw [← HUS.out]; exact HUB.out)
      have hadd : IntKind.i64.wrap ((n : Int) + (xf.b.length : Int)) = (n : Int) + (xf.b.length : Int) := IntWalk.i64_in _ (by omega)
      have HB1 := Lib.hid hbw
      have HRG1 := Lib.hid hrg1
      have HLT := Lib.hid hlt
      have HRG0 := Lib.hid hrg
      clear hkey hlx hv hat hrg1 hgv hy hgi hmem hbw hf hx hsv hle hst hll hrg hlt hg1 hs1
      unfold ptrV at *
      generalize xf.b.length = xl at *
      generalize q.fb i = fg at *
      go_wp2
      go_roundw
      case rel => exact ⟨n + xl, _, cnt1, by first | rfl | (congr 1), HRG1.out, HS1.out, HB1.out⟩
      case measure => rw [HRG1.out.left_eq, HRG0.out.left_eq]; exact HLT.out
end Go.Proofs.Ytmoaabjiokjjlaa
