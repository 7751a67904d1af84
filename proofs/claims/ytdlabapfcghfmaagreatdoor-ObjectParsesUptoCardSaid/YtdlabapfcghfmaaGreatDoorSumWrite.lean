/- (*sum.Sum).Write, by the kinds of sums. -/
import Derived.Test.YtdlabapfcghfmaaGreatDoorSumBegun
import Derived.Test.YtdlabapfcghfmaaGreatDoorChg
namespace Go.Proofs.YtdlabapfcghfmaaGreatDoor
open Go.RowKit
set_option linter.unusedVariables false

/-- n blocks of r taken into h. -/
def fb : Nat → H5 → List Int → H5
  | 0, h, _ => h
  | n + 1, h, r => fb n (mixH h r) (r.drop 64)
def restLen (g : Nat) (w : World) : Nat := match w.cell? ⟨g, 6, none⟩ with | some (.slice _ n _) => n | _ => 0

theorem ite_p {P : Value → Prop} {c : Prop} [Decidable c] {x y : Value} (h1 : P x) (h2 : P y) : P (if c then x else y) := by
  by_cases hc : c
  · rw [if_pos hc]; exact h1
  · rw [if_neg hc]; exact h2
theorem ite_tail {c : Prop} [Decidable c] {x y y' : Value} (h : ¬ c → y = y') : (if c then x else y) = (if c then x else y') := by
  by_cases hc : c
  · rw [if_pos hc, if_pos hc]
  · rw [if_neg hc, if_neg hc]; exact h hc
section
variable {g : Nat} {w w' : World} {v : Value} {kind len crc a b : Int} {h : H5} {rest : List Int} {tab : Nat → Int}
theorem SumRep.c0 (r : SumRep g w v kind h rest len tab crc a b) : w.cell? ⟨g, 0, none⟩ = some (.int .i64 kind) := r.cel.cell 0 (by decide)
theorem SumRep.c1 (r : SumRep g w v kind h rest len tab crc a b) : w.cell? ⟨g, 1, none⟩ = some (.int .u32 h.a) := r.cel.cell 1 (by decide)
theorem SumRep.c2 (r : SumRep g w v kind h rest len tab crc a b) : w.cell? ⟨g, 2, none⟩ = some (.int .u32 h.b) := r.cel.cell 2 (by decide)
theorem SumRep.c3 (r : SumRep g w v kind h rest len tab crc a b) : w.cell? ⟨g, 3, none⟩ = some (.int .u32 h.c) := r.cel.cell 3 (by decide)
theorem SumRep.c4 (r : SumRep g w v kind h rest len tab crc a b) : w.cell? ⟨g, 4, none⟩ = some (.int .u32 h.d) := r.cel.cell 4 (by decide)
theorem SumRep.c5 (r : SumRep g w v kind h rest len tab crc a b) : w.cell? ⟨g, 5, none⟩ = some (.int .u32 h.e) := r.cel.cell 5 (by decide)
theorem SumRep.c6 (r : SumRep g w v kind h rest len tab crc a b) : w.cell? ⟨g, 6, none⟩ = some v := r.cel.cell 6 (by decide)
theorem SumRep.c7 (r : SumRep g w v kind h rest len tab crc a b) : w.cell? ⟨g, 7, none⟩ = some (.int .u64 len) := r.cel.cell 7 (by decide)
theorem SumRep.c8 (r : SumRep g w v kind h rest len tab crc a b) {i : Nat} (hi : i < 256) : w.cell? ⟨g, 8 + i, none⟩ = some (.int .u32 (tab i)) := by
  rw [r.cel.cell (8 + i) (by omega)]
  unfold sumF
  repeat rw [if_neg (by omega)]
  rw [if_pos (by omega), Nat.add_sub_cancel_left]
theorem SumRep.c264 (r : SumRep g w v kind h rest len tab crc a b) : w.cell? ⟨g, 264, none⟩ = some (.int .u32 crc) := r.cel.cell 264 (by decide)
theorem SumRep.c265 (r : SumRep g w v kind h rest len tab crc a b) : w.cell? ⟨g, 265, none⟩ = some (.int .u32 a) := r.cel.cell 265 (by decide)
theorem SumRep.c266 (r : SumRep g w v kind h rest len tab crc a b) : w.cell? ⟨g, 266, none⟩ = some (.int .u32 b) := r.cel.cell 266 (by decide)
theorem SumRep.far (r : SumRep g w v kind h rest len tab crc a b) : v.ownBlock ≠ some g := r.own.ne_cel r.cel (by decide)
theorem SumRep.drew (r : SumRep g w v kind h rest len tab crc a b) : SumRep g w.drew v kind h rest len tab crc a b := ⟨r.cel.drew, r.own.drew⟩
theorem SumRep.chg {S : Nat → Prop} (r : SumRep g w v kind h rest len tab crc a b) (hc : Chg S w w') (h1 : ¬ S g) (h2 : ∀ k, v.ownBlock = some k → ¬ S k) : SumRep g w' v kind h rest len tab crc a b :=
  ⟨r.cel.chg hc h1, r.own.chg hc h2⟩
theorem SumRep.ints_far (r : SumRep g w v kind h rest len tab crc a b) {A : Option Addr} {xs : List Int} (hI : Ints .u8 w A xs) (hx : 0 < xs.length) (o : Nat) : A ≠ some ⟨g, o, none⟩ := by
  intro hA
  obtain ⟨b', o', h1, _, hc⟩ := hI hx
  rw [hA] at h1
  injection h1 with h1
  injection h1 with h2 h3 _
  subst h2; subst h3
  have h4 := hc 0 hx
  rw [Nat.add_zero] at h4
  obtain ⟨Av, cv, hv⟩ := r.own.shape
  by_cases ho : o < 267
  · rw [r.cel.cell o ho, hv] at h4
    injection h4 with h4
    have key : ∀ y, sumF kind h (.slice Av rest.length cv) len tab crc a b o ≠ .int .u8 y := by
      unfold sumF
      iterate 11 (refine ite_p (P := fun v => ∀ y, v ≠ Value.int .u8 y) (fun y hy => by cases hy) ?_)
      intro y hy
      cases hy
    exact key _ h4
  · obtain ⟨cs, h5, h6, _⟩ := r.cel
    rw [cell_of_row w g o cs _ _ h5, Array.getElem?_eq_none (by omega)] at h4
    cases h4
theorem ints_setFar {k : IntKind} {A : Option Addr} {xs : List Int} (hI : Ints k w A xs) {i : Nat} {u : Value} (hne : 0 < xs.length → ∀ o, A ≠ some ⟨g, o, none⟩) : Ints k (w.setCell ⟨g, i, none⟩ u) A xs := by
  intro hx
  obtain ⟨b, o, hA, hlt, hc⟩ := hI hx
  refine ⟨b, o, hA, by simpa [World.setCell] using hlt, fun j hj => ?_⟩
  rw [World.cell?_setCell_other _ _ _ _ (fun e => ?_)]
  · exact hc j hj
  · injection e with e1 _ _; subst e1; exact hne hx o hA
/-- A new length. -/
theorem SumRep.setLen (r : SumRep g w v kind h rest len tab crc a b) (l : Int) : SumRep g (w.setCell ⟨g, 7, none⟩ (.int .u64 l)) v kind h rest l tab crc a b :=
  ⟨(r.cel.set 7 _).congr (fun i hi => by
    by_cases e : i = 7
    · subst e; rfl
    · simp only [e, if_false]; unfold sumF; simp only [e, if_false]), r.own.setFar r.far _⟩
theorem SumRep.setCrc (r : SumRep g w v kind h rest len tab crc a b) (l : Int) : SumRep g (w.setCell ⟨g, 264, none⟩ (.int .u32 l)) v kind h rest len tab l a b :=
  ⟨(r.cel.set 264 _).congr (fun i hi => by
    by_cases e : i = 264
    · subst e; rfl
    · simp only [e, if_false]; unfold sumF; simp only [e, if_false]), r.own.setFar r.far _⟩
theorem SumRep.setA (r : SumRep g w v kind h rest len tab crc a b) (l : Int) : SumRep g (w.setCell ⟨g, 265, none⟩ (.int .u32 l)) v kind h rest len tab crc l b :=
  ⟨(r.cel.set 265 _).congr (fun i hi => by
    by_cases e : i = 265
    · subst e; rfl
    · simp only [e, if_false]; unfold sumF; simp only [e, if_false]), r.own.setFar r.far _⟩
theorem SumRep.setB (r : SumRep g w v kind h rest len tab crc a b) (l : Int) : SumRep g (w.setCell ⟨g, 266, none⟩ (.int .u32 l)) v kind h rest len tab crc a l :=
  ⟨(r.cel.set 266 _).congr (fun i hi => by
    by_cases e : i = 266
    · subst e; rfl
    · refine (if_neg e).trans ?_
      have h266 : i < 266 := by omega
      unfold sumF
      iterate 11 (refine ite_tail fun _ => ?_)
      exfalso; omega), r.own.setFar r.far _⟩
theorem SumRep.setRest {v' : Value} {rest' : List Int} (c : Cel w g 104 267 (sumF kind h v len tab crc a b)) (o : OwnS w 0 5 1 v' rest'.length (rest'.map (Value.int .u8))) : SumRep g (w.setCell ⟨g, 6, none⟩ v') v' kind h rest' len tab crc a b :=
  ⟨(c.set 6 _).congr (fun i hi => by
    by_cases e : i = 6
    · subst e; rfl
    · simp only [e, if_false]; unfold sumF; simp only [e, if_false]), o.setFar (o.ne_cel c (by decide)) _⟩
theorem SumRep.setH (r : SumRep g w v kind h rest len tab crc a b) (k : H5) : SumRep g (((((w.setCell ⟨g, 1, none⟩ (.int .u32 k.a)).setCell ⟨g, 2, none⟩ (.int .u32 k.b)).setCell ⟨g, 3, none⟩ (.int .u32 k.c)).setCell ⟨g, 4, none⟩ (.int .u32 k.d)).setCell ⟨g, 5, none⟩ (.int .u32 k.e)) v kind k rest len tab crc a b := by
  refine ⟨(((((r.cel.set 1 _).set 2 _).set 3 _).set 4 _).set 5 _).congr (fun i hi => ?_), ((((r.own.setFar r.far _).setFar r.far _).setFar r.far _).setFar r.far _).setFar r.far _⟩
  by_cases e1 : i = 1
  · subst e1; rfl
  by_cases e2 : i = 2
  · subst e2; rfl
  by_cases e3 : i = 3
  · subst e3; rfl
  by_cases e4 : i = 4
  · subst e4; rfl
  by_cases e5 : i = 5
  · subst e5; rfl
  refine (if_neg e5).trans ((if_neg e4).trans ((if_neg e3).trans ((if_neg e2).trans ((if_neg e1).trans ?_))))
  unfold sumF
  by_cases e0 : i = 0
  · rw [if_pos e0, if_pos e0]
  · rw [if_neg e0, if_neg e1, if_neg e2, if_neg e3, if_neg e4, if_neg e5, if_neg e0, if_neg e1, if_neg e2, if_neg e3, if_neg e4, if_neg e5]
end
end Go.Proofs.YtdlabapfcghfmaaGreatDoor
