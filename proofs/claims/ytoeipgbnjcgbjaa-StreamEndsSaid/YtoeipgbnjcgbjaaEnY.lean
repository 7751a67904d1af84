/- Put together for the claim, out of: EnsM, EnsT, EnsU. -/
import Derived.Test.YtoeipgbnjcgbjaaEnX
import Derived.Test.YtoeipgbnjcgbjaaTwo
import Derived.Test.YtoeipgbnjcgbjaaEnd9
import Derived.Test.YtoeipgbnjcgbjaaStrAwk
/- Two ends, a row of their pointers, two rows of what was read, in memory; what calls leave of them. -/
namespace Go.Proofs.Ytoeipgbnjcgbjaa
open Go.RowKit
set_option linter.unusedVariables false

theorem Cel.ne {w : World} {g g' N N' : Nat} {t t' : TypeId} {f f' : Nat → Value} (h : Cel w g t N f) (h' : Cel w g' t' N' f') (hne : t ≠ t') : g ≠ g' := by
  obtain ⟨cs, h1, _⟩ := h
  obtain ⟨cs', h2, _⟩ := h'
  intro e
  subst e
  rw [h1] at h2
  injection h2 with h2
  injection h2 with _ h3 _
  exact hne h3
/-- A row of datagrams that lies in blocks from B1 on below B2. -/
def OutsIn (B1 B2 : Nat) (w : World) (v : Value) (ls : List (List Int)) : Prop :=
  ∃ vs : List Value, OwnS w B1 22 1 v ls.length vs ∧ (∀ k, v.ownBlock = some k → k < B2) ∧ ∀ i, i < ls.length → ∃ A, vs[i]? = some (.slice A (ls.getD i []).length (ls.getD i []).length) ∧ OwnS w B1 5 1 (.slice A (ls.getD i []).length (ls.getD i []).length) (ls.getD i []).length ((ls.getD i []).map (Value.int .u8)) ∧
    (∀ k, (Value.slice A (ls.getD i []).length (ls.getD i []).length).ownBlock = some k → k < B2)
theorem OutsIn.at_ {B1 B2 : Nat} {w : World} {v : Value} {ls : List (List Int)} (h : OutsIn B1 B2 w v ls) : OutsAt B1 w v ls := by
  obtain ⟨vs, h1, _, h3⟩ := h
  exact ⟨vs, h1, fun i hi => by obtain ⟨A, h4, h5, _⟩ := h3 i hi; exact ⟨A, h4, h5⟩⟩
theorem OutsIn.of {B1 : Nat} {w : World} {v : Value} {ls : List (List Int)} (h : OutsAt B1 w v ls) : OutsIn B1 w.heap.size w v ls := by
  obtain ⟨vs, h1, h3⟩ := h
  exact ⟨vs, h1, fun k hk => (h1.lt k hk).2, fun i hi => by obtain ⟨A, h4, h5⟩ := h3 i hi; exact ⟨A, h4, h5, fun k hk => (h5.lt k hk).2⟩⟩
theorem OutsIn.chg {B1 B2 : Nat} {w w' : World} {v : Value} {ls : List (List Int)} {S : Nat → Prop} (h : OutsIn B1 B2 w v ls) (hc : Chg S w w') (hS : ∀ k, B1 ≤ k → k < B2 → ¬ S k) : OutsIn B1 B2 w' v ls := by
  obtain ⟨vs, h1, h2, h3⟩ := h
  refine ⟨vs, h1.chg hc (fun k hk => hS k (h1.lt k hk).1 (h2 k hk)), h2, fun i hi => ?_⟩
  obtain ⟨A, h4, h5, h6⟩ := h3 i hi
  exact ⟨A, h4, h5.chg hc (fun k hk => hS k (h5.lt k hk).1 (h6 k hk)), h6⟩
/-- The pointers of the two ends. -/
def ptrF (g1 g2 : Nat) (i : Nat) : Value := if i = 0 then .pointer (some ⟨g1, 0, none⟩) else .pointer (some ⟨g2, 0, none⟩)
structure EM (B g1 g2 pb : Nat) (w : World) (d l : En) (vo1 vi1 vo2 vi2 vx vy : Value) (xs ys : List Int) : Prop where
  two : Two B g1 g2 w d l vo1 vi1 vo2 vi2
  cel : Cel w pb 32 2 (ptrF g1 g2)
  ox : OwnS w B 5 1 vx xs.length (xs.map (Value.int .u8))
  oy : OwnS w B 5 1 vy ys.length (ys.map (Value.int .u8))
  sx : ∀ k, vx.ownBlock = some k → ¬ Fp g1 vo1 vi1 k ∧ ¬ Fp g2 vo2 vi2 k ∧ vy.ownBlock ≠ some k
  sy : ∀ k, vy.ownBlock = some k → ¬ Fp g1 vo1 vi1 k ∧ ¬ Fp g2 vo2 vi2 k
section
variable {B g1 g2 pb : Nat} {w w' : World} {d d' l l' : En} {vo1 vi1 vo1' vi1' vo2 vi2 vo2' vi2' vx vy : Value} {xs ys : List Int} {e : Ending} {now : Int}
theorem EM.size (h : EM B g1 g2 pb w d l vo1 vi1 vo2 vi2 vx vy xs ys) : B ≤ w.heap.size := h.two.size
theorem EM.far (h : EM B g1 g2 pb w d l vo1 vi1 vo2 vi2 vx vy xs ys) : ¬ Fp g1 vo1 vi1 pb ∧ ¬ Fp g2 vo2 vi2 pb := by
  constructor
  · rintro (h1 | h1 | h1)
    · exact h.two.e1.cel.ne h.cel (by decide) h1.symm
    · exact h.two.e1.oo.ne_cel h.cel (by decide) h1
    · exact h.two.e1.oi.ne_cel h.cel (by decide) h1
  · rintro (h1 | h1 | h1)
    · exact h.two.e2.cel.ne h.cel (by decide) h1.symm
    · exact h.two.e2.oo.ne_cel h.cel (by decide) h1
    · exact h.two.e2.oi.ne_cel h.cel (by decide) h1
theorem fresh_fp {g : Nat} {vo vi vo' vi' : Value} (hFo : Fresh w vo vo') (hFi : Fresh w vi vi') : ∀ k, Fp g vo' vi' k → Fp g vo vi k ∨ w.heap.size ≤ k := by
  rintro k (rfl | hk | hk)
  · exact .inl (.inl rfl)
  · rcases hFo with hF | hF
    · exact .inl (.inr (.inl (by rw [← hF]; exact hk)))
    · exact .inr (hF k hk)
  · rcases hFi with hF | hF
    · exact .inl (.inr (.inr (by rw [← hF]; exact hk)))
    · exact .inr (hF k hk)
theorem EM.step1 {S : Nat → Prop} (h : EM B g1 g2 pb w d l vo1 vi1 vo2 vi2 vx vy xs ys) (hE : EnAt g1 w' d' vo1' vi1') (hC : Chg S w w') (hS : ∀ k, k < w.heap.size → S k → Fp g1 vo1 vi1 k) (hFo : Fresh w vo1 vo1') (hFi : Fresh w vi1 vi1') :
    EM B g1 g2 pb w' d' l vo1' vi1' vo2 vi2 vx vy xs ys ∧ Below B w w' := by
  have key := fresh_fp (g := g1) hFo hFi
  refine ⟨⟨h.two.step hE hC hS hFo hFi, h.cel.chg hC (fun hs => h.far.1 (hS _ h.cel.blk hs)), h.ox.chg hC (fun k hk hs => (h.sx k hk).1 (hS k (h.ox.lt k hk).2 hs)), h.oy.chg hC (fun k hk hs => (h.sy k hk).1 (hS k (h.oy.lt k hk).2 hs)), fun k hk => ⟨fun hf => ?_, (h.sx k hk).2⟩, fun k hk => ⟨fun hf => ?_, (h.sy k hk).2⟩⟩, h.two.low hC hS⟩
  · rcases key k hf with h1 | h1
    · exact (h.sx k hk).1 h1
    · have := (h.ox.lt k hk).2; omega
  · rcases key k hf with h1 | h1
    · exact (h.sy k hk).1 h1
    · have := (h.oy.lt k hk).2; omega
theorem EM.step2 {S : Nat → Prop} (h : EM B g1 g2 pb w d l vo1 vi1 vo2 vi2 vx vy xs ys) (hE : EnAt g2 w' l' vo2' vi2') (hC : Chg S w w') (hS : ∀ k, k < w.heap.size → S k → Fp g2 vo2 vi2 k) (hFo : Fresh w vo2 vo2') (hFi : Fresh w vi2 vi2') :
    EM B g1 g2 pb w' d l' vo1 vi1 vo2' vi2' vx vy xs ys ∧ Below B w w' := by
  have key := fresh_fp (g := g2) hFo hFi
  refine ⟨⟨(h.two.swap.step hE hC hS hFo hFi).swap, h.cel.chg hC (fun hs => h.far.2 (hS _ h.cel.blk hs)), h.ox.chg hC (fun k hk hs => (h.sx k hk).2.1 (hS k (h.ox.lt k hk).2 hs)), h.oy.chg hC (fun k hk hs => (h.sy k hk).2 (hS k (h.oy.lt k hk).2 hs)), fun k hk => ⟨(h.sx k hk).1, fun hf => ?_, (h.sx k hk).2.2⟩, fun k hk => ⟨(h.sy k hk).1, fun hf => ?_⟩⟩, h.two.swap.low hC hS⟩
  · rcases key k hf with h1 | h1
    · exact (h.sx k hk).2.1 h1
    · have := (h.ox.lt k hk).2; omega
  · rcases key k hf with h1 | h1
    · exact (h.sy k hk).2 h1
    · have := (h.oy.lt k hk).2; omega
/-- What makes memory alone leaves all. -/
theorem EM.below (h : EM B g1 g2 pb w d l vo1 vi1 vo2 vi2 vx vy xs ys) (hb : Below w.heap.size w w') : EM B g1 g2 pb w' d l vo1 vi1 vo2 vi2 vx vy xs ys :=
  ⟨h.two.below hb, h.cel.below hb h.cel.blk, h.ox.chg (S := fun _ => False) (Chg.of_below hb) (fun _ _ h => h), h.oy.chg (S := fun _ => False) (Chg.of_below hb) (fun _ _ h => h), h.sx, h.sy⟩
theorem EM.drewN (h : EM B g1 g2 pb w d l vo1 vi1 vo2 vi2 vx vy xs ys) (n : Nat) : EM B g1 g2 pb (w.drewN n) d l vo1 vi1 vo2 vi2 vx vy xs ys := h.below (Below.drewN (Below.refl _ _) n)
/-- Out of the one and of the other. -/
theorem EM.out1 (h : EM B g1 g2 pb w d l vo1 vi1 vo2 vi2 vx vy xs ys) (hp : OutPost g1 d vo1 vi1 now w e w') : ∃ A, e = .returned (.slice A (outS d now).1.length (outS d now).1.length) ∧ OutsIn w.heap.size w'.heap.size w' (.slice A (outS d now).1.length (outS d now).1.length) (outS d now).1 ∧
    EM B g1 g2 pb w' (outS d now).2 l vo1 vi1 vo2 vi2 vx vy xs ys ∧ Below B w w' := by
  obtain ⟨A, he, ho, hE, hC⟩ := hp
  obtain ⟨h1, h2⟩ := h.step1 hE hC (fun k _ hk => .inl hk) (.inl rfl) (.inl rfl)
  exact ⟨A, he, OutsIn.of ho, h1, h2⟩
theorem EM.out2 (h : EM B g1 g2 pb w d l vo1 vi1 vo2 vi2 vx vy xs ys) (hp : OutPost g2 l vo2 vi2 now w e w') : ∃ A, e = .returned (.slice A (outS l now).1.length (outS l now).1.length) ∧ OutsIn w.heap.size w'.heap.size w' (.slice A (outS l now).1.length (outS l now).1.length) (outS l now).1 ∧
    EM B g1 g2 pb w' d (outS l now).2 vo1 vi1 vo2 vi2 vx vy xs ys ∧ Below B w w' := by
  obtain ⟨A, he, ho, hE, hC⟩ := hp
  obtain ⟨h1, h2⟩ := h.step2 hE hC (fun k _ hk => .inl hk) (.inl rfl) (.inl rfl)
  exact ⟨A, he, OutsIn.of ho, h1, h2⟩
/-- In of the one and of the other. -/
theorem EM.take1 {B1 B2 : Nat} {v : Value} {ls : List (List Int)} (h : EM B g1 g2 pb w d l vo1 vi1 vo2 vi2 vx vy xs ys) (ho : OutsIn B1 B2 w v ls) (hf : ∀ k, Fp g1 vo1 vi1 k → k < B1 ∨ B2 ≤ k) (hB : B2 ≤ w.heap.size) (hp : TakePost g1 d' vo1 vi1 w e w') :
    e = .returned (.tuple #[]) ∧ ∃ vi', EM B g1 g2 pb w' d' l vo1 vi' vo2 vi2 vx vy xs ys ∧ OutsIn B1 B2 w' v ls ∧ (∀ k, Fp g1 vo1 vi' k → k < B1 ∨ B2 ≤ k) ∧ Below B w w' := by
  obtain ⟨he, vi', hE, hC, hF⟩ := hp
  have hS : ∀ k, k < w.heap.size → (k = g1 ∨ vi1.ownBlock = some k) → Fp g1 vo1 vi1 k := fun k _ h => h.elim .inl (fun h => .inr (.inr h))
  obtain ⟨h1, h2⟩ := h.step1 hE hC hS (.inl rfl) hF
  refine ⟨he, vi', h1, ho.chg hC (fun k h3 h4 h5 => ?_), fun k hk => ?_, h2⟩
  · rcases hf k (h5.elim .inl (fun h => .inr (.inr h))) with h6 | h6 <;> omega
  · rcases fresh_fp (g := g1) (vo := vo1) (.inl rfl) hF k hk with h6 | h6
    · exact hf k h6
    · exact .inr (by omega)
theorem EM.take2 {B1 B2 : Nat} {v : Value} {ls : List (List Int)} (h : EM B g1 g2 pb w d l vo1 vi1 vo2 vi2 vx vy xs ys) (ho : OutsIn B1 B2 w v ls) (hf : ∀ k, Fp g2 vo2 vi2 k → k < B1 ∨ B2 ≤ k) (hB : B2 ≤ w.heap.size) (hp : TakePost g2 l' vo2 vi2 w e w') :
    e = .returned (.tuple #[]) ∧ ∃ vi', EM B g1 g2 pb w' d l' vo1 vi1 vo2 vi' vx vy xs ys ∧ OutsIn B1 B2 w' v ls ∧ (∀ k, Fp g2 vo2 vi' k → k < B1 ∨ B2 ≤ k) ∧ Below B w w' := by
  obtain ⟨he, vi', hE, hC, hF⟩ := hp
  have hS : ∀ k, k < w.heap.size → (k = g2 ∨ vi2.ownBlock = some k) → Fp g2 vo2 vi2 k := fun k _ h => h.elim .inl (fun h => .inr (.inr h))
  obtain ⟨h1, h2⟩ := h.step2 hE hC hS (.inl rfl) hF
  refine ⟨he, vi', h1, ho.chg hC (fun k h3 h4 h5 => ?_), fun k hk => ?_, h2⟩
  · rcases hf k (h5.elim .inl (fun h => .inr (.inr h))) with h6 | h6 <;> omega
  · rcases fresh_fp (g := g2) (vo := vo2) (.inl rfl) hF k hk with h6 | h6
    · exact hf k h6
    · exact .inr (by omega)
/-- Read, and what was read put behind. -/
theorem EM.read2 (h : EM B g1 g2 pb w d l vo1 vi1 vo2 vi2 vx vy xs ys) (hp : RdPost g2 l vo2 vi2 w e w') : ∃ A, e = .returned (.slice A (readS l).1.length (readS l).1.length) ∧ Ints .u8 w' A (readS l).1 ∧ EM B g1 g2 pb w' d (readS l).2 vo1 vi1 vo2 vi2 vx vy xs ys ∧ Below B w w' := by
  obtain ⟨A, he, ho, hE, hC⟩ := hp
  obtain ⟨h1, h2⟩ := h.step2 hE hC (fun k _ hk => .inl hk) (.inl rfl) (.inl rfl)
  exact ⟨A, he, OwnS.ints ho, h1, h2⟩
theorem EM.read1 (h : EM B g1 g2 pb w d l vo1 vi1 vo2 vi2 vx vy xs ys) (hp : RdPost g1 d vo1 vi1 w e w') : ∃ A, e = .returned (.slice A (readS d).1.length (readS d).1.length) ∧ Ints .u8 w' A (readS d).1 ∧ EM B g1 g2 pb w' (readS d).2 l vo1 vi1 vo2 vi2 vx vy xs ys ∧ Below B w w' := by
  obtain ⟨A, he, ho, hE, hC⟩ := hp
  obtain ⟨h1, h2⟩ := h.step1 hE hC (fun k _ hk => .inl hk) (.inl rfl) (.inl rfl)
  exact ⟨A, he, OwnS.ints ho, h1, h2⟩
theorem EM.appx {A : Option Addr} {c : Nat} {zs : List Int} (h : EM B g1 g2 pb w d l vo1 vi1 vo2 vi2 vx vy xs ys) (ho : OwnS w' B 5 1 (.slice A zs.length c) zs.length (zs.map (Value.int .u8))) (hg : w.grownBy w' vx.ownBlock) (hv : (Value.slice A zs.length c).ownBlock = vx.ownBlock ∨ (Value.slice A zs.length c).ownBlock = some w.heap.size) :
    EM B g1 g2 pb w' d l vo1 vi1 vo2 vi2 (.slice A zs.length c) vy zs ys ∧ Below B w w' := by
  have hC : Chg (fun k => vx.ownBlock = some k) w w' := Chg.of_grown hg (fun k hk => hk)
  refine ⟨⟨h.two.chg hC (fun k hk => ⟨(h.sx k hk).1, (h.sx k hk).2.1⟩), h.cel.chg hC (fun hk => h.ox.ne_cel h.cel (by decide) hk), ho, h.oy.chg hC (fun k hk hs => (h.sx k hs).2.2 hk), fun k hk => ?_, h.sy⟩, hC.below h.size (fun k hk hs => by have := (h.ox.lt k hs).1; omega)⟩
  rcases hv with hv | hv
  · exact h.sx k (hv ▸ hk)
  · rw [hv] at hk
    injection hk with hk
    subst hk
    refine ⟨fun hf => ?_, fun hf => ?_, fun hf => ?_⟩
    · have := h.two.e1.fp_lt _ hf; omega
    · have := h.two.e2.fp_lt _ hf; omega
    · have := (h.oy.lt _ hf).2; omega
theorem EM.appy {A : Option Addr} {c : Nat} {zs : List Int} (h : EM B g1 g2 pb w d l vo1 vi1 vo2 vi2 vx vy xs ys) (ho : OwnS w' B 5 1 (.slice A zs.length c) zs.length (zs.map (Value.int .u8))) (hg : w.grownBy w' vy.ownBlock) (hv : (Value.slice A zs.length c).ownBlock = vy.ownBlock ∨ (Value.slice A zs.length c).ownBlock = some w.heap.size) :
    EM B g1 g2 pb w' d l vo1 vi1 vo2 vi2 vx (.slice A zs.length c) xs zs ∧ Below B w w' := by
  have hC : Chg (fun k => vy.ownBlock = some k) w w' := Chg.of_grown hg (fun k hk => hk)
  refine ⟨⟨h.two.chg hC (fun k hk => h.sy k hk), h.cel.chg hC (fun hk => h.oy.ne_cel h.cel (by decide) hk), h.ox.chg hC (fun k hk hs => (h.sx k hk).2.2 hs), ho, fun k hk => ⟨(h.sx k hk).1, (h.sx k hk).2.1, ?_⟩, fun k hk => ?_⟩, hC.below h.size (fun k hk hs => by have := (h.oy.lt k hs).1; omega)⟩
  · rcases hv with hv | hv
    · rw [hv]; exact (h.sx k hk).2.2
    · rw [hv]
      intro e
      injection e with e
      have := (h.ox.lt k hk).2
      omega
  · rcases hv with hv | hv
    · exact h.sy k (hv ▸ hk)
    · rw [hv] at hk
      injection hk with hk
      subst hk
      refine ⟨fun hf => ?_, fun hf => ?_⟩
      · have := h.two.e1.fp_lt _ hf; omega
      · have := h.two.e2.fp_lt _ hf; omega
theorem EM.p0 (h : EM B g1 g2 pb w d l vo1 vi1 vo2 vi2 vx vy xs ys) : w.cell? ⟨pb, 0, none⟩ = some (.pointer (some ⟨g1, 0, none⟩)) := h.cel.cell 0 (by decide)
theorem EM.p1 (h : EM B g1 g2 pb w d l vo1 vi1 vo2 vi2 vx vy xs ys) : w.cell? ⟨pb, 1, none⟩ = some (.pointer (some ⟨g2, 0, none⟩)) := h.cel.cell 1 (by decide)
end
end Go.Proofs.Ytoeipgbnjcgbjaa
/- Two ends between calls: all that a walk keeps of them. -/
namespace Go.Proofs.Ytoeipgbnjcgbjaa
open Go.RowKit
set_option linter.unusedVariables false

structure Ok2 (a b : List Int) (now : Int) (d l : En) (x y : List Int) : Prop where
  p : PairI a b d l
  okd : EnOk d
  okl : EnOk l
  fnd : EnFin d
  fnl : EnFin l
  atd : d.at_ ≤ now
  atl : l.at_ ≤ now
  rdx : l.read = x.length
  rdy : d.read = y.length
  xa : x = a.take x.length
  yb : y = b.take y.length
section
variable {a b : List Int} {d l : En} {x y : List Int} {now : Int}
theorem wf_now (now : Int) (h : 0 ≤ now ∧ now ≤ 1000000) : (Lit.int .i64 now).wf = true := by
  simp [Lit.wf, IntKind.min, IntKind.max, IntKind.bits, IntKind.signed]
  omega
theorem Ok2.out1 (h : Ok2 a b now d l x y) (hn : 0 ≤ now ∧ now ≤ 1000000) (hNa : a.length ≤ 30000) : Ok2 a b now (outS d now).2 l x y ∧ (outS d now).1 = (outQ d now).map segL ∧ (∀ q ∈ outQ d now, Comp a (outS d now).2 q ∧ goodSg q ∧ Bytes q.data) := by
  obtain ⟨h1, h2, h3⟩ := h.p.out_d (now := now)
  have hst : d.st = 1 ∨ d.st = 2 ∨ d.st = 3 := h.p.sta.ds.elim .inl (fun e => .inr (.inr e))
  have h4 := outQ_good (now := now) h.p.da h.okd hNa
  exact ⟨⟨h1, outS_ok d now h.okd (wf_now now hn), h.okl, outS_fin d now h.fnd h.okd (wf_now now hn), h.fnl, outS_at h.p.da hst h.atd, h.atl, h.rdx, (outS_out d now).2.2.1.trans h.rdy, h.xa, h.yb⟩, h2, fun q hq => ⟨h3 q hq, h4 q hq⟩⟩
theorem Ok2.out2 (h : Ok2 a b now d l x y) (hn : 0 ≤ now ∧ now ≤ 1000000) (hNb : b.length ≤ 30000) : Ok2 a b now d (outS l now).2 x y ∧ (outS l now).1 = (outQ l now).map segL ∧ (∀ q ∈ outQ l now, Comp b (outS l now).2 q ∧ goodSg q ∧ Bytes q.data) := by
  obtain ⟨h1, h2, h3⟩ := h.p.out_l (now := now)
  have hst : l.st = 1 ∨ l.st = 2 ∨ l.st = 3 := .inr h.p.sta.ls
  have h4 := outQ_good (now := now) h.p.db h.okl hNb
  exact ⟨⟨h1, h.okd, outS_ok l now h.okl (wf_now now hn), h.fnd, outS_fin l now h.fnl h.okl (wf_now now hn), h.atd, outS_at h.p.db hst h.atl, (outS_out l now).2.2.1.trans h.rdx, h.rdy, h.xa, h.yb⟩, h2, fun q hq => ⟨h3 q hq, h4 q hq⟩⟩
theorem Ok2.take2 (h : Ok2 a b now d l x y) (hn : 0 ≤ now ∧ now ≤ 1000000) (hNa : a.length ≤ 30000) (q : Sg) (hq : Comp a d q ∧ goodSg q ∧ Bytes q.data) : Ok2 a b now d (inS l (segL q) now) x y ∧ inS l (segL q) now = stepS l q now := by
  have e := inS_seg l q now hq.2
  have hs := segL_ok q hq.2.2
  refine ⟨⟨by rw [e]; exact h.p.step_l hNa q hq.1, h.okd, inS_ok l _ now h.okl hs (wf_now now hn) h.fnl, h.fnd, inS_fin l _ now h.fnl h.okl, h.atd, by rw [e]; exact stepS_at l q now h.atl, (inS_out l _ now).2.1.trans h.rdx, h.rdy, h.xa, h.yb⟩, e⟩
theorem Ok2.take1 (h : Ok2 a b now d l x y) (hn : 0 ≤ now ∧ now ≤ 1000000) (hNb : b.length ≤ 30000) (q : Sg) (hq : Comp b l q ∧ goodSg q ∧ Bytes q.data) : Ok2 a b now (inS d (segL q) now) l x y ∧ inS d (segL q) now = stepS d q now := by
  have e := inS_seg d q now hq.2
  have hs := segL_ok q hq.2.2
  refine ⟨⟨by rw [e]; exact h.p.step_d hNb q hq.1, inS_ok d _ now h.okd hs (wf_now now hn) h.fnd, h.okl, inS_fin d _ now h.fnd h.okd, h.fnl, by rw [e]; exact stepS_at d q now h.atd, h.atl, h.rdx, (inS_out d _ now).2.1.trans h.rdy, h.xa, h.yb⟩, e⟩
theorem Dir.readS_ {s t : En} (h : Dir a s t) : Dir a (readS s).2 (readS t).2 :=
  (h.send rfl rfl rfl rfl rfl h.un h.nn h.aln h.nx (fun h' => (h.oth h').2) h.es : Dir a (readS s).2 t).recv rfl rfl rfl
theorem take_read {l : En} {m n : Nat} (hin : l.inn = a.take m) (hx : x = a.take x.length) (hr : l.read = x.length) (hl : x.length ≤ l.inn.length) : x ++ (readS l).1 = l.inn := by
  have h1 : l.inn.take x.length = x := by
    rw [hin, List.take_take]
    have : l.inn.length ≤ m := by rw [hin, List.length_take]; omega
    rw [Nat.min_eq_left (by omega)]
    exact hx.symm
  show x ++ l.inn.drop l.read.toNat = l.inn
  rw [hr, Int.toNat_natCast]
  conv => lhs; lhs; rw [← h1]
  exact List.take_append_drop _ _
/-- Both are read. -/
theorem Ok2.read (h : Ok2 a b now d l x y) : x ++ (readS l).1 = l.inn ∧ y ++ (readS d).1 = d.inn ∧ Ok2 a b now (readS d).2 (readS l).2 l.inn d.inn := by
  have h1 := h.okl.read
  have h2 := h.okd.read
  have h3 := h.rdx
  have h4 := h.rdy
  refine ⟨take_read (n := 0) h.p.da.inn h.xa h.rdx (by omega), take_read (n := 0) h.p.db.inn h.yb h.rdy (by omega), ?_⟩
  exact ⟨⟨h.p.da.readS_, h.p.db.readS_, ⟨h.p.sta.ds, h.p.sta.ls, h.p.sta.dl, h.p.sta.d1, h.p.sta.l2⟩⟩, readS_ok d h.okd, readS_ok l h.okl, h.fnd, h.fnl, h.atd, h.atl, rfl, rfl, h.p.da.inn, h.p.db.inn⟩
/-- The ends at the beginning of round i, of which the first R may lose datagrams. -/
structure Rs (a b : List Int) (R i : Nat) (d l : En) (x y : List Int) : Prop where
  ok : Ok2 a b (8 * (i : Int)) d l x y
  xl : x = l.inn
  yd : y = d.inn
  tmd : Tm d (8 * (i : Int))
  tml : Tm l (8 * (i : Int))
  lv : R ≤ i → Lv a b (i - R) d l
/-- Behind the first half of a round. -/
structure Rm (a b : List Int) (R i : Nat) (d l : En) (x y : List Int) : Prop where
  ok : Ok2 a b (8 * (i : Int)) d l x y
  lv : R ≤ i → ∃ d0 l0, PairI a b d0 l0 ∧ Lv a b (i - R) d0 l0 ∧ Tm d0 (8 * (i : Int)) ∧ Tm l0 (8 * (i : Int)) ∧ d = (outS d0 (8 * (i : Int))).2 ∧ l = recvQ l0 (outQ d0 (8 * (i : Int))) (8 * (i : Int))
/-- Behind a round. -/
structure Re (a b : List Int) (R i : Nat) (d l : En) (x y : List Int) : Prop where
  ok : Ok2 a b (8 * (i : Int)) d l x y
  lv : R ≤ i → Lv a b (i + 1 - R) d l
theorem Lv.zero (a b : List Int) (d l : En) : Lv a b 0 d l := ⟨fun h => by omega, fun h => by omega, fun h => by omega⟩
theorem Re.next {R i : Nat} (h : Re a b R i d l x y) (hi : i ≤ 1000) : Rs a b R (i + 1) (readS d).2 (readS l).2 l.inn d.inn := by
  obtain ⟨_, _, h3⟩ := h.ok.read
  have h4 := h.ok.atd
  have h5 := h.ok.atl
  have e : (8 : Int) * ((i + 1 : Nat) : Int) = 8 * (i : Int) + 8 := by omega
  refine ⟨?_, rfl, rfl, ?_, ?_, fun hR => ?_⟩
  · rw [e]
    exact ⟨h3.p, h3.okd, h3.okl, h3.fnd, h3.fnl, by have := h3.atd; omega, by have := h3.atl; omega, h3.rdx, h3.rdy, h3.xa, h3.yb⟩
  · rw [e]; exact Tm.next (s := (readS d).2) h4 (by omega)
  · rw [e]; exact Tm.next (s := (readS l).2) h5 (by omega)
  · by_cases c : R ≤ i
    · have := h.lv c
      exact ⟨this.one, this.two, this.three⟩
    · have : i + 1 - R = 0 := by omega
      rw [this]
      exact Lv.zero _ _ _ _
/-- Between the datagrams of the first half. -/
structure R1 (a b : List Int) (R i j : Nat) (d0 l0 d l : En) (x y : List Int) : Prop where
  ok : Ok2 a b (8 * (i : Int)) d l x y
  cq : ∀ q ∈ outQ d0 (8 * (i : Int)), Comp a d q ∧ goodSg q ∧ Bytes q.data
  all : R ≤ i → l = recvQ l0 ((outQ d0 (8 * (i : Int))).take j) (8 * (i : Int))
structure R2 (a b : List Int) (R i j : Nat) (d0 l0 d l : En) (x y : List Int) : Prop where
  ok : Ok2 a b (8 * (i : Int)) d l x y
  cq : ∀ q ∈ outQ l0 (8 * (i : Int)), Comp b l q ∧ goodSg q ∧ Bytes q.data
  all : R ≤ i → d = recvQ d0 ((outQ l0 (8 * (i : Int))).take j) (8 * (i : Int))
theorem recvQ_snoc (t : En) (qs : List Sg) (j : Nat) (hj : j < qs.length) (now : Int) : recvQ t (qs.take (j + 1)) now = stepS (recvQ t (qs.take j) now) (qs[j]) now := by
  rw [List.take_succ_eq_append_getElem hj, recvQ_app]
  rfl
variable {R i j : Nat} {d0 l0 : En}
theorem Rs.half (h : Rs a b R i d l x y) (hi : i ≤ 1000) (hNa : a.length ≤ 30000) : R1 a b R i 0 d l (outS d (8 * (i : Int))).2 l x y ∧ (outS d (8 * (i : Int))).1 = (outQ d (8 * (i : Int))).map segL := by
  obtain ⟨h1, h2, h3⟩ := h.ok.out1 (by omega) hNa
  exact ⟨⟨h1, h3, fun _ => rfl⟩, h2⟩
theorem map_getD {qs : List Sg} {j : Nat} (hj : j < qs.length) : (qs.map segL).getD j [] = segL qs[j] := by
  rw [List.getD_eq_getElem?_getD, List.getElem?_map, List.getElem?_eq_getElem hj]
  rfl
theorem R1.take (h : R1 a b R i j d0 l0 d l x y) (hi : i ≤ 1000) (hNa : a.length ≤ 30000) (hj : j < (outQ d0 (8 * (i : Int))).length) : R1 a b R i (j + 1) d0 l0 d (inS l (((outQ d0 (8 * (i : Int))).map segL).getD j []) (8 * (i : Int))) x y := by
  obtain ⟨h1, h2⟩ := h.ok.take2 (by omega) hNa _ (h.cq _ (List.getElem_mem hj))
  rw [map_getD hj]
  exact ⟨h1, h.cq, fun hR => by rw [h2, recvQ_snoc _ _ _ hj, ← h.all hR]⟩
theorem R1.skip (h : R1 a b R i j d0 l0 d l x y) (hR : ¬ R ≤ i) : R1 a b R i (j + 1) d0 l0 d l x y := ⟨h.ok, h.cq, fun h' => absurd h' hR⟩
theorem R1.done (h : R1 a b R i j d0 l0 (outS d0 (8 * (i : Int))).2 l x y) (hs : Rs a b R i d0 l0 x y) (hj : (outQ d0 (8 * (i : Int))).length ≤ j) : Rm a b R i (outS d0 (8 * (i : Int))).2 l x y :=
  ⟨h.ok, fun hR => ⟨d0, l0, hs.ok.p, hs.lv hR, hs.tmd, hs.tml, rfl, by rw [h.all hR, List.take_of_length_le hj]⟩⟩
theorem Rm.half (h : Rm a b R i d l x y) (hi : i ≤ 1000) (hNb : b.length ≤ 30000) : R2 a b R i 0 d l d (outS l (8 * (i : Int))).2 x y ∧ (outS l (8 * (i : Int))).1 = (outQ l (8 * (i : Int))).map segL := by
  obtain ⟨h1, h2, h3⟩ := h.ok.out2 (by omega) hNb
  exact ⟨⟨h1, h3, fun _ => rfl⟩, h2⟩
theorem R2.take (h : R2 a b R i j d0 l0 d l x y) (hi : i ≤ 1000) (hNb : b.length ≤ 30000) (hj : j < (outQ l0 (8 * (i : Int))).length) : R2 a b R i (j + 1) d0 l0 (inS d (((outQ l0 (8 * (i : Int))).map segL).getD j []) (8 * (i : Int))) l x y := by
  obtain ⟨h1, h2⟩ := h.ok.take1 (by omega) hNb _ (h.cq _ (List.getElem_mem hj))
  rw [map_getD hj]
  exact ⟨h1, h.cq, fun hR => by rw [h2, recvQ_snoc _ _ _ hj, ← h.all hR]⟩
theorem R2.skip (h : R2 a b R i j d0 l0 d l x y) (hR : ¬ R ≤ i) : R2 a b R i (j + 1) d0 l0 d l x y := ⟨h.ok, h.cq, fun h' => absurd h' hR⟩
theorem R2.done (h : R2 a b R i j d0 l0 d (outS l0 (8 * (i : Int))).2 x y) (hs : Rm a b R i d0 l0 x y) (hNa : a.length ≤ 30000) (hNb : b.length ≤ 30000) (hj : (outQ l0 (8 * (i : Int))).length ≤ j) : Re a b R i d (outS l0 (8 * (i : Int))).2 x y := by
  refine ⟨h.ok, fun hR => ?_⟩
  obtain ⟨d9, l9, h1, h2, h3, h4, rfl, rfl⟩ := hs.lv hR
  have := h2.step h1 hNa hNb h3 h4
  rw [h.all hR, List.take_of_length_le hj]
  have e : i + 1 - R = i - R + 1 := by omega
  rw [e]
  exact this
theorem dataQ_len (s : En) : ∀ (f p : Nat), (dataQ s f p).length ≤ f := by
  intro f
  induction f with
  | zero => intro p; exact Nat.le_refl _
  | succ f ih =>
    intro p
    rw [dataQ]
    split
    · rw [List.length_cons]; have := ih (p + pieceN s p); omega
    · exact Nat.zero_le _
theorem outQ_len (s : En) (now : Int) (h : s.out.length ≤ 30000) : (outQ s now).length ≤ 30002 := by
  have := dataQ_len s s.out.length (startQ s now).toNat
  unfold outQ
  split
  · split <;> simp
  split
  · have h1 : (ackQ s).length ≤ 1 := by unfold ackQ; split <;> simp
    have h2 : (finQ s now).length ≤ 1 := by unfold finQ; split <;> simp
    rw [List.length_append, List.length_append]
    omega
  · exact Nat.zero_le _
end
end Go.Proofs.Ytoeipgbnjcgbjaa
/- The walk of StreamEnds: the beginning, the relations of its loops. -/
namespace Go.Proofs.Ytoeipgbnjcgbjaa
open Go.RowKit
set_option linter.unusedVariables false

def dialE (a : List Int) : En := { newEnd 9 1 with out := a, closed := true }
def listenE (b : List Int) : En := { newEnd 9 2 with out := b, closed := true }
theorem write_new (id st : Int) (a : List Int) (h : st ≠ 4) (hN : a.length ≤ 30000) : writeS (newEnd id st) a = (0, { newEnd id st with out := a }) := by
  unfold writeS
  rw [if_neg (by simpa [newEnd] using h), if_neg (by simp [newEnd]), if_neg (by simp [newEnd]; omega)]
  rfl
theorem close_new (id st : Int) (a : List Int) (h : st ≠ 4) : closeS { newEnd id st with out := a } = (0, { newEnd id st with out := a, closed := true }) := by
  unfold closeS
  rw [if_neg (by simpa [newEnd] using h)]
theorem begin_dir (a b : List Int) (st st' : Int) : Dir a { newEnd 9 st with out := a, closed := true } { newEnd 9 st' with out := b, closed := true } := by
  have h0 : al a.length 0 := .inl rfl
  exact ⟨rfl, rfl, rfl, Int.le_refl 0, Int.le_refl 0, by show (0 : Int) ≤ a.length; omega, h0, h0, rfl, h0, Int.le_refl 0, by show (0 : Int) ≤ 0 + 4000; decide, Int.le_refl 0, (fun h => by cases h), (fun h => by cases h), (fun h => by cases h)⟩
theorem begin_ok (a : List Int) (st : Int) (hst : 1 ≤ st ∧ st ≤ 4) (hb : Bytes a) (hN : a.length ≤ 30000) : EnOk { newEnd 9 st with out := a, closed := true } := by
  have h := newEnd_ok 9 st hst
  exact ⟨h.st, h.id, h.una, by show (0 : Int) ≤ a.length; omega, by show a.length ≤ 1048576; omega, h.innl, h.read, hb, h.innb, h.at_⟩
theorem begin_rs (a b : List Int) (R : Nat) (ha : Bytes a) (hb : Bytes b) (hNa : a.length ≤ 30000) (hNb : b.length ≤ 30000) : Rs a b R 0 (dialE a) (listenE b) [] [] := by
  refine ⟨⟨⟨begin_dir a b 1 2, begin_dir b a 2 1, ⟨.inl rfl, .inl rfl, (fun h => by cases h), fun _ => ⟨rfl, rfl, rfl, rfl⟩, fun _ => ⟨rfl, rfl, rfl, rfl⟩⟩⟩, begin_ok a 1 (by decide) ha hNa, begin_ok b 2 (by decide) hb hNb, ⟨(fun h => by cases h), (fun h => by cases h)⟩, ⟨(fun h => by cases h), (fun h => by cases h)⟩, Int.le_refl 0, Int.le_refl 0, rfl, rfl, rfl, rfl⟩, rfl, rfl, .inl ⟨rfl, rfl, rfl⟩, .inl ⟨rfl, rfl, rfl⟩, fun _ => ?_⟩
  rw [Nat.zero_sub]
  exact Lv.zero _ _ _ _
theorem and15i (m : Int) (h : -9223372036854775808 ≤ m ∧ m < 9223372036854775808) : bits .and .i64 m 15 = m % 16 := by
  have h1 : (BitVec.ofInt 64 15).toNat = 2 ^ 4 - 1 := by decide
  have key : (BitVec.ofInt 64 m &&& BitVec.ofInt 64 15).toNat = (m % ((2 ^ 64 : Nat) : Int)).toNat % 2 ^ 4 := by
    rw [BitVec.toNat_and, BitVec.toNat_ofInt, h1, Nat.and_two_pow_sub_one_eq_mod]
  show IntKind.i64.wrap ((BitVec.ofInt 64 m &&& BitVec.ofInt 64 15).toNat : Nat) = m % 16
  rw [key, IntKind.wrap_i64]
  omega
def BoolsAt (w : World) (A : Option Addr) (m : Nat) (G : Nat → Bool) : Prop :=
  0 < m → ∃ b o, A = some ⟨b, o, none⟩ ∧ b < w.heap.size ∧ ∀ i, i < m → w.cell? ⟨b, o + i, none⟩ = some (.bool (G i))
theorem BoolsAt.below {w w' : World} {A : Option Addr} {m : Nat} {G : Nat → Bool} (h : BoolsAt w A m G) (hb : Below w.heap.size w w') : BoolsAt w' A m G := fun hm => by
  obtain ⟨b, o, h1, h2, h3⟩ := h hm
  exact ⟨b, o, h1, Nat.lt_of_lt_of_le h2 hb.size, fun i hi => (hb.cell (p := ⟨b, o + i, none⟩) h2).trans (h3 i hi)⟩
section
variable {B g1 g2 pb : Nat} {w w' : World} {d d' l l' : En} {vo1 vi1 vo2 vi2 vx vy : Value} {xs ys b : List Int} {e : Ending} {now : Int}
theorem EM.write1 (h : EM B g1 g2 pb w d l vo1 vi1 vo2 vi2 vx vy xs ys) (hp : WrPost g1 d vo1 vi1 b w e w') : ∃ vo', e = .returned (.int .i64 (writeS d b).1) ∧ EM B g1 g2 pb w' (writeS d b).2 l vo' vi1 vo2 vi2 vx vy xs ys ∧ Below B w w' := by
  obtain ⟨vo', he, hE, hC, hF⟩ := hp
  exact ⟨vo', he, h.step1 hE hC (fun k _ hk => hk.elim .inl (fun h => .inr (.inl h))) hF (.inl rfl)⟩
theorem EM.write2 (h : EM B g1 g2 pb w d l vo1 vi1 vo2 vi2 vx vy xs ys) (hp : WrPost g2 l vo2 vi2 b w e w') : ∃ vo', e = .returned (.int .i64 (writeS l b).1) ∧ EM B g1 g2 pb w' d (writeS l b).2 vo1 vi1 vo' vi2 vx vy xs ys ∧ Below B w w' := by
  obtain ⟨vo', he, hE, hC, hF⟩ := hp
  exact ⟨vo', he, h.step2 hE hC (fun k _ hk => hk.elim .inl (fun h => .inr (.inl h))) hF (.inl rfl)⟩
theorem EM.same1 (h : EM B g1 g2 pb w d l vo1 vi1 vo2 vi2 vx vy xs ys) (hE : EnAt g1 w' d' vo1 vi1) (hC : Chg (fun k => k = g1) w w') : EM B g1 g2 pb w' d' l vo1 vi1 vo2 vi2 vx vy xs ys ∧ Below B w w' :=
  h.step1 hE hC (fun k _ hk => .inl hk) (.inl rfl) (.inl rfl)
theorem EM.same2 (h : EM B g1 g2 pb w d l vo1 vi1 vo2 vi2 vx vy xs ys) (hE : EnAt g2 w' l' vo2 vi2) (hC : Chg (fun k => k = g2) w w') : EM B g1 g2 pb w' d l' vo1 vi1 vo2 vi2 vx vy xs ys ∧ Below B w w' :=
  h.step2 hE hC (fun k _ hk => .inl hk) (.inl rfl) (.inl rfl)
end
theorem EM.begin_ {W w1 w2 : World} {e1 e2 : Ending} (h1 : EnNew W (newEnd 9 1) e1 w1) (h2 : EnNew w1 (newEnd 9 2) e2 w2) :
    EM W.heap.size W.heap.size w1.heap.size w2.heap.size (w2.alloc (.cells #[.pointer (some ⟨W.heap.size, 0, none⟩), .pointer (some ⟨w1.heap.size, 0, none⟩)] 32)) (newEnd 9 1) (newEnd 9 2) (.slice none 0 0) (.slice none 0 0) (.slice none 0 0) (.slice none 0 0) (.slice none 0 0) (.slice none 0 0) [] [] ∧
      Below W.heap.size W (w2.alloc (.cells #[.pointer (some ⟨W.heap.size, 0, none⟩), .pointer (some ⟨w1.heap.size, 0, none⟩)] 32)) := by
  obtain ⟨hT, hB⟩ := Two.new h1 h2
  refine ⟨⟨hT.below ((Below.refl _ _).alloc (Nat.le_refl _) _), ?_, OwnS.nil _ _ _ _, OwnS.nil _ _ _ _, (fun k hk => by cases hk), (fun k hk => by cases hk)⟩, hB.alloc hB.size _⟩
  exact Cel.new w2 _ #[.pointer (some ⟨W.heap.size, 0, none⟩), .pointer (some ⟨w1.heap.size, 0, none⟩)] _ (fun i hi => by
    match i, hi with
    | 0, _ => rfl
    | 1, _ => rfl)
theorem outs_ok {P : Sg → Prop} {qs : List Sg} {ds : List (List Int)} (h : ∀ q ∈ qs, P q ∧ goodSg q ∧ Bytes q.data) (hd : qs.map segL = ds) (j : Nat) (hj : j < qs.length) : Bytes (ds.getD j []) ∧ (ds.getD j []).length ≤ 419 := by
  subst hd
  rw [map_getD hj]
  obtain ⟨_, _, h3⟩ := h _ (List.getElem_mem hj)
  exact ⟨segL_ok _ h3, by rw [segL_len, List.length_take]; omega⟩
theorem idle_of {s : En} (h3 : s.st = 3) (he : s.endAcked = true) (ho : s.owes = false) (hn : s.next = s.una ∧ s.next = s.out.length) : idleB s = true := by
  unfold idleB waitsB
  rw [if_neg (by omega), if_neg (by omega), he, ho, decide_eq_false (show ¬ s.una < s.next by omega), decide_eq_true hn.2]
  cases s.closed <;> cases s.endSent <;> rfl
/-- The rounds' loop. -/
def EndsO (W : World) (B g1 g2 pb R K : Nat) (a b : List Int) (nw n x y i : Value) (wr : World) : Prop :=
  ∃ (i' nn : Nat) (d l : En) (vo1 vi1 vo2 vi2 : Value) (xs ys : List Int) (Ax : Option Addr) (cx : Nat) (Ay : Option Addr) (cy : Nat), nw = .int .i64 (8 * (i' : Int)) ∧ i = .int .i64 i' ∧ n = .int .i64 nn ∧ x = .slice Ax xs.length cx ∧ y = .slice Ay ys.length cy ∧ i' ≤ K ∧ nn ≤ i' * 70000 ∧ EM B g1 g2 pb wr d l vo1 vi1 vo2 vi2 x y xs ys ∧ Rs a b R i' d l xs ys ∧ Below B W wr
/-- The two halves. -/
def EndsK (W : World) (B g1 g2 pb R i : Nat) (a b : List Int) (x y : Value) (xs ys : List Int) (n k : Value) (wr : World) : Prop :=
  ∃ (k' nn : Nat) (d l : En) (vo1 vi1 vo2 vi2 : Value), k = .int .i64 k' ∧ n = .int .i64 nn ∧ nn ≤ i * 70000 + k' * 30002 ∧ EM B g1 g2 pb wr d l vo1 vi1 vo2 vi2 x y xs ys ∧ Below B W wr ∧
    ((k' = 0 ∧ Rs a b R i d l xs ys) ∨ (k' = 1 ∧ Rm a b R i d l xs ys) ∨ (k' = 2 ∧ Re a b R i d l xs ys))
/-- The datagrams of a half. -/
def EndsJ1 (W : World) (B g1 g2 pb R i N0 B1 B2 L : Nat) (a b : List Int) (x y : Value) (xs ys : List Int) (d0 l0 : En) (ds : List (List Int)) (A : Option Addr) (vo1 vi1 vo2 : Value) (n j : Value) (wr : World) : Prop :=
  ∃ (j' nn : Nat) (l : En) (vi2 : Value), j = .int .i64 j' ∧ n = .int .i64 nn ∧ j' ≤ L ∧ nn ≤ N0 + j' ∧ EM B g1 g2 pb wr (outS d0 (8 * (i : Int))).2 l vo1 vi1 vo2 vi2 x y xs ys ∧ Below B W wr ∧
    OutsIn B1 B2 wr (.slice A L L) ds ∧ (∀ k, Fp g2 vo2 vi2 k → k < B1 ∨ B2 ≤ k) ∧ B2 ≤ wr.heap.size ∧ R1 a b R i j' d0 l0 (outS d0 (8 * (i : Int))).2 l xs ys
def EndsJ2 (W : World) (B g1 g2 pb R i N0 B1 B2 L : Nat) (a b : List Int) (x y : Value) (xs ys : List Int) (d0 l0 : En) (ds : List (List Int)) (A : Option Addr) (vo1 vo2 vi2 : Value) (n j : Value) (wr : World) : Prop :=
  ∃ (j' nn : Nat) (d : En) (vi1 : Value), j = .int .i64 j' ∧ n = .int .i64 nn ∧ j' ≤ L ∧ nn ≤ N0 + j' ∧ EM B g1 g2 pb wr d (outS l0 (8 * (i : Int))).2 vo1 vi1 vo2 vi2 x y xs ys ∧ Below B W wr ∧
    OutsIn B1 B2 wr (.slice A L L) ds ∧ (∀ k, Fp g1 vo1 vi1 k → k < B1 ∨ B2 ≤ k) ∧ B2 ≤ wr.heap.size ∧ R2 a b R i j' d0 l0 d (outS l0 (8 * (i : Int))).2 xs ys
end Go.Proofs.Ytoeipgbnjcgbjaa
