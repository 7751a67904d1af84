/- All that hangs on some objects: the program's Closure, Check. -/
import Derived.Test.YtihanglnjghcfaaGreatDoorGAg13
import Derived.Test.YtihanglnjghcfaaGreatDoorGAg3
import Derived.Test.YtihanglnjghcfaaGreatDoorGAg11
import Derived.Test.YtihanglnjghcfaaGreatDoorGAg12
import Derived.Test.YtihanglnjghcfaaGreatDoorGAg4
namespace Go.Proofs.YtihanglnjghcfaaGreatDoor
open Go.RowKit Go.Maps
set_option linter.unusedVariables false
set_option linter.unusedSimpArgs false

/-- What the closure answers. -/
def ClosAns (R : Except Int (List Git)) (w w' : World) (e : Ending) : Prop :=
  match R with
  | .error x => e = .returned (.tuple #[.slice none 0 0, .int .i64 x])
  | .ok m => ∃ A, e = .returned (.tuple #[.slice A m.length m.length, .int .i64 0]) ∧ OwnS w' w.heap.size 9 1 (.slice A m.length m.length) m.length (strVs (sortG (m.map (·.id))))
def ClosPost (St : (Nat → Prop) → List Gid → World → Prop) (F : Nat → Prop) (qs : List Gid) (R : Except Int (List Git)) (w : World) (e : Ending) (w' : World) : Prop :=
  ∃ F' qs', St F' (qs ++ qs') w' ∧ qs'.Nodup ∧ Chg F w w' ∧ (∀ k, F' k → F k ∨ w.heap.size ≤ k) ∧ ClosAns R w w' e
/-- What the walk keeps from round to round. -/
structure ClosI (St : (Nat → Prop) → List Gid → World → Prop) (F : Nat → Prop) (qs U : List Gid) (G : Gid → Option Kn) (rs : List Gid) (most : Int) (get : Value) (w : World) (g i : Nat) (l : List Git) (F1 : Nat → Prop) (wr : World) : Prop where
  st : St F1 (qs ++ (l.map (·.id)).take i) wr
  sub : ∀ k, F1 k → F k ∨ w.heap.size ≤ k
  chg : Chg F w wr
  at' : WalkAt wr (KOf w.heap.size F1) g get false l
  eq : closR G U rs most = goG (gobG G) most (U.length + 1 - i) i l
  one : OneG l
  inU : SubU U l
  le : i ≤ l.length
theorem EnvO.lt {w : World} (h : EnvO w) : 1 < w.heap.size ∧ 2 < w.heap.size :=
  ⟨block_lt (h.tabs.1 0 (by decide)), block_lt (a := ⟨2, 2 * 0, none⟩) (h.tabs.2 0 (by decide)).1⟩
set_option maxRecDepth 100000 in
set_option maxHeartbeats 4000000 in
theorem closure_any (hSo : SortsS) {f : FuncId} {c1 c2 : Value} {G : Gid → Option Kn} {St : (Nat → Prop) → List Gid → World → Prop} (hg : Getter f c1 c2 G St) {U : List Gid} (hU : Univ G U) (F : Nat → Prop) (qs : List Gid) (w : World) (A : Option Addr) (n c : Nat) (rs : List Gid) (most : Int)
    (hS : St F qs w) (hE : EnvO w) (h1 : ¬ F 1) (h2 : ¬ F 2) (hR : StrsAt w A (rs.map bk)) (hn : rs.length = n) (hl : n ≤ 268435456) (hs : ∀ r ∈ rs, r.length ≤ 1099511627776) (hrU : ∀ r ∈ rs, r ∈ U) :
    Calls Tryz.prog 16 #[fnV f c1 c2, .slice A n c, .int .i64 most] w (ClosPost St F qs (closR G U rs most) w) := by
  have HBE := Lib.hid (begin_any f c1 c2 A n c rs w hR hn hl hs)
  have HG := Lib.hid hg
  have HU := Lib.hid hU
  have HE := Lib.hid hE
  have HT := Lib.hid (And.intro hE.lt.1 (And.intro hE.lt.2 (And.intro h1 h2)))
  have HS0 := Lib.hid hS
  have HLO := Lib.hid (hg.low hS)
  have HRU := Lib.hid hrU
  have HSO := Lib.hid hSo
  clear hg hU hS hE h1 h2 hR hn hl hs hrU hSo
  unfold fnV at *
  go_enter Tryz.func16, Tryz.ntmps16
  go_wp2_with fail
  refine HBE.out.mono ?_
  rintro e w1 ⟨hb1, g, rfl, hw1⟩
  have HI0 : Hid (ClosI St F qs U G rs most (.func (.func f) #[] #[c1, c2]) w g 0 (rootsP [] rs) F w1) := Lib.hid {
    st := by simpa using HG.out.keep HS0.out (Chg.of_below (S := fun k => w.heap.size ≤ k) hb1) (fun k hk => Nat.not_le.2 (HLO.out k hk))
    sub := fun k hk => .inl hk
    chg := Chg.of_below hb1
    at' := hw1.keep (Chg.refl (fun _ => False) _) (fun _ _ _ h => h) (fun k hk _ => ⟨hk, fun h => by have := HLO.out k h; omega⟩)
    eq := rfl
    one := rootsP_one rs [] List.Pairwise.nil
    inU := rootsP_sub rs [] (fun x hx => by simp at hx) HRU.out
    le := Nat.zero_le _ }
  clear hb1 hw1
  go_wp2
  go_loopw [9] (fun vn wr => ∃ (i : Nat) (l : List Git) (F1 : Nat → Prop), vn = .int .i64 i ∧ ClosI St F qs U G rs most (.func (.func f) #[] #[c1, c2]) w g i l F1 wr) (fun vn _ => U.length - (intOf vn).toNat)
  case atStart => exact ⟨0, _, _, rfl, HI0.out⟩
  case round =>
    obtain ⟨i, l, F1, rfl, hI⟩ := hrel
    have HI := Lib.hid hI
    obtain ⟨_, A2, c2', _, _, hce, _⟩ := hI.at'
    have k1 : wr.cell? ⟨g, 1, none⟩ = some (.slice A2 l.length c2') := hce.cell 1 (by decide)
    have hlu := sub_len hI.one hI.inU
    have HLU := Lib.hid (And.intro hlu HU.out.num)
    clear hI hce hlu
    by_cases hlt : i < l.length
    · have d1 : decide ((i : Int) < (l.length : Int)) = true := decide_eq_true (by omega)
      have d1' : decide (i < l.length) = true := decide_eq_true hlt
      have HLT := Lib.hid hlt
      obtain ⟨M, hM⟩ : ∃ M, max most 0 = M := ⟨_, rfl⟩
      have HM : Hid (max most 0 = M) := Lib.hid hM
      by_cases hb : M ≤ (i : Int)
      · have d2 : decide (M ≤ (i : Int)) = true := decide_eq_true hb
        have HRES : Hid (closR G U rs most = .error 5) := Lib.hid (by rw [HI.out.eq, show U.length + 1 - i = (U.length - i) + 1 by have := HLU.out.1; omega]; exact goG_big hlt (by rw [HM.out]; exact hb))
        clear hb hlt
        go_wp2
        go_ret2
        rw [HRES.out]
        exact ⟨F1, _, HI.out.st, List.Nodup.sublist (List.take_sublist _ _) HI.out.one, HI.out.chg, HI.out.sub, rfl⟩
      · have d2 : decide (M ≤ (i : Int)) = false := decide_eq_false hb
        have HRES : Hid (closR G U rs most = if (lookW false (gobG G) l i).2 = 0 then goG (gobG G) most (U.length + 1 - (i + 1)) (i + 1) (lookW false (gobG G) l i).1 else .error (lookW false (gobG G) l i).2) := Lib.hid (by rw [HI.out.eq, show U.length + 1 - i = (U.length - i) + 1 by have := HLU.out.1; omega, show U.length + 1 - (i + 1) = U.length - i by omega]; exact goG_step hlt (by rw [HM.out]; exact hb))
        have hx : l[i]? = some l[i] := List.getElem?_eq_getElem hlt
        have HLK := Lib.hid (look_any HG.out F1 (qs ++ (l.map (·.id)).take i) wr w.heap.size g i false l l[i] HI.out.st (HE.out.chg HI.out.chg HT.out.2.2.1 HT.out.2.2.2) HT.out.1 HT.out.2.1 (fun h => by rcases HI.out.sub _ h with h | h; exact HT.out.2.2.1 h; have := HT.out.1; omega) (fun h => by rcases HI.out.sub _ h with h | h; exact HT.out.2.2.2 h; have := HT.out.2.1; omega) HI.out.chg.size HI.out.at' hx (by have := HLU.out; omega) (fun o ho => HU.out.sz _ o ho))
        have HQS : Hid (∀ t, qs ++ (l.map (·.id)).take i ++ [l[i].id] = qs ++ ((l.map (·.id)) ++ t).take (i + 1)) := Lib.hid (fun t => by
          rw [List.append_assoc]
          congr 1
          rw [List.take_append_of_le_length (by simp; omega), List.take_add_one, List.getElem?_map, hx]
          rfl)
        obtain ⟨t, ht⟩ := lookW_pre false (gobG G) l i
        have HPR := Lib.hid ht
        have HON := Lib.hid (lookW_one false (gobG G) i HI.out.one)
        have HSU := Lib.hid (lookW_sub HU.out false i HI.out.inU)
        have HLL : Hid (l.length ≤ (lookW false (gobG G) l i).1.length) := Lib.hid (by have := congrArg List.length ht; simp at this; omega)
        have hw1 : IntKind.i64.wrap ((i : Int) + 1) = (i : Int) + 1 := IntWalk.i64_in _ (by have := HLU.out; omega)
        rw [show (fun d => (G d).map gobK) = gobG G from rfl] at HLK
        unfold fnV at HLK
        unfold LookPost at HLK
        generalize l[i] = x at *
        clear hb hlt hx ht
        go_wp2_with fail
        refine HLK.out.mono ?_
        generalize lookW false (gobG G) l i = R at *
        rintro e w2 ⟨rfl, F2, hs2, hf2, hc2, hw2⟩
        obtain ⟨m, er⟩ := R
        dsimp only at *
        have HC2 : Hid (Chg F w w2) := Lib.hid (HI.out.chg.trans hc2 (fun k hk h => by
          rcases h with h | h
          · rcases HI.out.sub k h with h | h
            · exact h
            · omega
          · have := h.1; omega))
        have HF2 : Hid (∀ k, F2 k → F k ∨ w.heap.size ≤ k) := Lib.hid (fun k hk => by
          rcases hf2 k hk with h | h
          · exact HI.out.sub k h
          · have := HI.out.chg.size; exact .inr (by omega))
        have HS2 : Hid (St F2 (qs ++ (m.map (·.id)).take (i + 1)) w2) := Lib.hid (by rw [HPR.out, ← HQS.out]; exact hs2)
        have HW2 := Lib.hid hw2
        clear hs2 hf2 hc2 hw2
        by_cases h0 : er = 0
        · subst h0
          have h0 : (0 : Int) = 0 := rfl
          have HEQ : Hid (closR G U rs most = goG (gobG G) most (U.length + 1 - (i + 1)) (i + 1) m) := Lib.hid (by rw [HRES.out, if_pos h0])
          go_wp2
          go_roundw
          case rel => exact ⟨i + 1, m, F2, rfl, ⟨HS2.out, HF2.out, HC2.out, HW2.out, HEQ.out, HON.out, HSU.out, by have := HLL.out; have := HLT.out; omega⟩⟩
          case measure => have := HLU.out; have := HLT.out; simp [intOf]; omega
        · have HEQ : Hid (closR G U rs most = .error er) := Lib.hid (by rw [HRES.out, if_neg h0])
          go_wp2
          go_ret2
          rw [HEQ.out]
          exact ⟨F2, _, HS2.out, List.Nodup.sublist (List.take_sublist _ _) HON.out, HC2.out, HF2.out, rfl⟩
    · have d1 : decide ((i : Int) < (l.length : Int)) = false := decide_eq_false (by omega)
      have d1' : decide (i < l.length) = false := decide_eq_false hlt
      have HRES : Hid (closR G U rs most = .ok l) := Lib.hid (by rw [HI.out.eq]; exact goG_end (by omega))
      have HID := Lib.hid (ids_any HSO.out _ g _ false l wr HI.out.at' (by have := HLU.out; omega))
      clear hlt
      go_wp2_with fail
      refine HID.out.mono ?_
      rintro e w2 ⟨hb2, A3, rfl, ho2⟩
      have e1 : (sortG (l.map (·.id))).length = l.length := by rw [sortG_len, List.length_map]
      rw [e1] at ho2
      have HO2 := Lib.hid ho2
      have HB2 := Lib.hid hb2
      have HLW := Lib.hid (HG.out.low HI.out.st)
      have HE1 := Lib.hid e1
      clear hb2 ho2 e1
      go_wp2
      go_ret2
      rw [HRES.out]
      refine ⟨F1, _, HG.out.keep HI.out.st (Chg.of_below (S := fun k => wr.heap.size ≤ k) HB2.out) (fun k hk => Nat.not_le.2 (HLW.out k hk)), List.Nodup.sublist (List.take_sublist _ _) HI.out.one, HI.out.chg.trans (Chg.of_below (S := fun _ => False) HB2.out) (fun _ _ h => h.elim), HI.out.sub, A3, by rw [HE1.out]; rfl, HO2.out.base_ HI.out.chg.size⟩
end Go.Proofs.YtihanglnjghcfaaGreatDoor
namespace Go.Proofs.YtihanglnjghcfaaGreatDoor
open Go.RowKit Go.Maps
set_option linter.unusedVariables false
set_option linter.unusedSimpArgs false

theorem atG_mem {l : List Git} {d : Gid} : (atG l d).isSome = true ↔ d ∈ l.map (·.id) := by
  constructor
  · intro h
    obtain ⟨i, hi⟩ := Option.isSome_iff_exists.1 h
    obtain ⟨x, hx, rfl⟩ := atG_lt hi
    exact List.mem_map_of_mem (List.mem_of_getElem? hx)
  · intro h
    cases hn : atG l d with
    | some i => rfl
    | none =>
      obtain ⟨x, hx, he⟩ := List.mem_map.1 h
      exact absurd he (atG_none.1 hn x hx)
theorem add0_ids (l : List Git) (p : Gid) : (addG l ⟨p, 0⟩).1.map (·.id) = if p ∈ l.map (·.id) then l.map (·.id) else l.map (·.id) ++ [p] := by
  unfold addG
  dsimp only
  cases hat : atG l p with
  | none =>
    rw [if_neg (fun h => by have := atG_mem.2 h; rw [hat] at this; cases this)]
    simp
  | some i =>
    rw [if_pos (atG_mem.1 (by rw [hat]; rfl))]
    dsimp only
    split
    · rw [modify_ids]
    · rfl
/-- The parents laid into the walk's list. -/
def parsW (l : List Git) : List Gid → List Git
  | [] => l
  | p :: ps => parsW (addG l ⟨p, 0⟩).1 ps
theorem parsW_ids : ∀ (ps : List Gid) (l : List Git), (parsW l ps).map (·.id) = parG (l.map (·.id)) ps
  | [], l => rfl
  | p :: ps, l => by
    unfold parsW parG
    rw [parsW_ids ps, add0_ids]
theorem parsW_one : ∀ (ps : List Gid) (l : List Git), OneG l → OneG (parsW l ps)
  | [], l, h => h
  | p :: ps, l, h => by unfold parsW; exact parsW_one ps _ (addG_one h _)
theorem parsW_sub {U : List Gid} : ∀ (ps : List Gid) (l : List Git), SubU U l → (∀ p ∈ ps, p ∈ U) → SubU U (parsW l ps)
  | [], l, h, _ => h
  | p :: ps, l, h, hp => by
    unfold parsW
    refine parsW_sub ps _ (fun x hx => ?_) fun q hq => hp q (List.mem_cons_of_mem _ hq)
    rcases addG_ids hx with h1 | h1
    · obtain ⟨z, hz, he⟩ := List.mem_map.1 h1
      rw [← he]; exact h z hz
    · rw [h1]; exact hp p (by simp)
/-- A commit's parents are among what it hangs on. -/
theorem pa_lk {kd : Int} {b : List UInt8} {ps : List Gid} (h : paOf kd b = some ps) : ∃ ks, lkOf kd b = some ks ∧ ∀ p ∈ ps, ∃ k ∈ ks, k.id = bk p := by
  unfold paOf at h
  split at h
  · rename_i h1
    obtain ⟨r, hr, rfl⟩ := Option.map_eq_some_iff.1 h
    refine ⟨comK (bk r.t) (r.P.map bk), by unfold lkOf; rw [if_pos h1, hr]; rfl, fun p hp => ?_⟩
    refine ⟨⟨bk p, 1⟩, ?_, rfl⟩
    unfold comK
    simp only [List.mem_cons, List.mem_map]
    exact .inr ⟨bk p, ⟨p, hp, rfl⟩, rfl⟩
  · cases h
theorem Univ.pa {G : Gid → Option Kn} {U : List Gid} (hu : Univ G U) {d : Gid} {o : Kn} {ps : List Gid} (hg : G d = some o) (h : paOf o.kd o.b = some ps) : ∀ p ∈ ps, p ∈ U := by
  obtain ⟨ks, hk, hp⟩ := pa_lk h
  intro p hpp
  obtain ⟨k, hk1, e⟩ := hp p hpp
  have := hu.lk d o ks hg hk k hk1
  rw [e, bk_list] at this
  exact this
theorem pa_num {kd : Int} {b : List UInt8} {ps : List Gid} (h : paOf kd b = some ps) : ps.length ≤ b.length := by
  unfold paOf at h
  split at h
  · obtain ⟨r, hr, rfl⟩ := Option.map_eq_some_iff.1 h
    exact commit_num hr
  · cases h
theorem pa_each {kd : Int} {b : List UInt8} {ps : List Gid} (h : paOf kd b = some ps) : ∀ p ∈ ps, p.length ≤ b.length + 40 := by
  intro p hp
  obtain ⟨ks, hk, hpp⟩ := pa_lk h
  obtain ⟨k, hk1, e⟩ := hpp p hp
  have := lkOf_each hk k hk1
  rw [e, bk_size] at this
  exact this
theorem tc_com (a : Value) (b c d e : Value) (W : World) : (Instr.typeAssert (.iface 103 (.agg #[a, b, c, d, e])) 92 103 true).run Tryz.prog W = .ok (.tuple #[.agg #[a, b, c, d, e], .bool true]) W := by kernel_rfl
theorem tc_tre (a : Value) (W : World) : (Instr.typeAssert (.iface 164 (.agg #[a])) 92 103 true).run Tryz.prog W = .ok (.tuple #[.agg #[.string ⟨#[]⟩, .slice none 0 0, .string ⟨#[]⟩, .string ⟨#[]⟩, .string ⟨#[]⟩], .bool false]) W := by kernel_rfl
theorem tc_blo (a : Value) (W : World) : (Instr.typeAssert (.iface 148 (.agg #[a])) 92 103 true).run Tryz.prog W = .ok (.tuple #[.agg #[.string ⟨#[]⟩, .slice none 0 0, .string ⟨#[]⟩, .string ⟨#[]⟩, .string ⟨#[]⟩], .bool false]) W := by kernel_rfl
theorem tc_tag (a : Value) (b c d e : Value) (W : World) : (Instr.typeAssert (.iface 96 (.agg #[a, b, c, d, e])) 92 103 true).run Tryz.prog W = .ok (.tuple #[.agg #[.string ⟨#[]⟩, .slice none 0 0, .string ⟨#[]⟩, .string ⟨#[]⟩, .string ⟨#[]⟩], .bool false]) W := by kernel_rfl
/-- No commit: how it is told. -/
theorem ObjIs.noCom {w : World} {B : Nat} {kd : Int} {b : List UInt8} {IF : Value} (h : ObjIs w B kd b IF) (hk : kd ≠ 1) (W : World) :
    (Instr.typeAssert IF 92 103 true).run Tryz.prog W = .ok (.tuple #[.agg #[.string ⟨#[]⟩, .slice none 0 0, .string ⟨#[]⟩, .string ⟨#[]⟩, .string ⟨#[]⟩], .bool false]) W := by
  rcases h with ⟨h1, _⟩ | ⟨rfl, L, A, hL, rfl, ho⟩ | ⟨rfl, v, rfl⟩ | ⟨rfl, r, hr, rfl⟩
  · exact absurd h1 hk
  · exact tc_tre _ W
  · exact tc_blo _ W
  · exact tc_tag _ _ _ _ _ W
theorem paOf_no {kd : Int} {b : List UInt8} (h : kd ≠ 1) : paOf kd b = none := by unfold paOf; rw [if_neg h]
theorem paOf_none {kd : Int} {b : List UInt8} (h : lkOf kd b = none) : paOf kd b = none := by
  cases hp : paOf kd b with
  | none => rfl
  | some ps =>
    obtain ⟨ks, hk, _⟩ := pa_lk hp
    rw [h] at hk; cases hk
/-- What Ancestor answers. -/
def ancV : Except Int Bool → Value
  | .ok b => .tuple #[.bool b, .int .i64 0]
  | .error x => .tuple #[.bool false, .int .i64 x]
/-- Ancestor, the program's way, with rounds enough. -/
def ancR (G : Gid → Option Kn) (U : List Gid) (most : Int) (a b : Gid) : Except Int Bool := ancP (gobG G) most a (U.length + 1) 0 [b]
section
variable {G : Gid → Option Gob} {most : Int} {a : Gid} {n i : Nat} {l : List Gid}
theorem ancP_end (h : l.length ≤ i) : ancP G most a n i l = .ok false := by
  cases n with
  | zero => rfl
  | succ n => unfold ancP; rw [List.getElem?_eq_none h]
theorem ancP_in (h : i < l.length) (ha : a ∈ l) : ancP G most a (n + 1) i l = .ok true := by
  unfold ancP; rw [List.getElem?_eq_getElem h]; dsimp only; rw [if_pos ha]
theorem ancP_big (h : i < l.length) (ha : a ∉ l) (hb : max most 0 ≤ (i : Int)) : ancP G most a (n + 1) i l = .error 5 := by
  unfold ancP; rw [List.getElem?_eq_getElem h]; dsimp only; rw [if_neg ha, if_pos hb]
theorem ancP_none {d : Gid} (h : l[i]? = some d) (ha : a ∉ l) (hb : ¬ max most 0 ≤ (i : Int)) (hg : G d = none) : ancP G most a (n + 1) i l = .error 61 := by
  unfold ancP; rw [h]; dsimp only; rw [if_neg ha, if_neg (by exact hb), hg]
theorem ancP_bad {d : Gid} {o : Gob} (h : l[i]? = some d) (ha : a ∉ l) (hb : ¬ max most 0 ≤ (i : Int)) (hg : G d = some o) (hp : o.pa = none) : ancP G most a (n + 1) i l = .error 3 := by
  unfold ancP; rw [h]; dsimp only; rw [if_neg ha, if_neg (by exact hb), hg]; dsimp only; rw [hp]
theorem ancP_step {d : Gid} {o : Gob} {ps : List Gid} (h : l[i]? = some d) (ha : a ∉ l) (hb : ¬ max most 0 ≤ (i : Int)) (hg : G d = some o) (hp : o.pa = some ps) : ancP G most a (n + 1) i l = ancP G most a n (i + 1) (parG l ps) := by
  conv => lhs; unfold ancP
  rw [h]; dsimp only; rw [if_neg ha, if_neg (by exact hb), hg]; dsimp only; rw [hp]
end
end Go.Proofs.YtihanglnjghcfaaGreatDoor
namespace Go.Proofs.YtihanglnjghcfaaGreatDoor
open Go.RowKit Go.Maps
set_option linter.unusedVariables false
set_option linter.unusedSimpArgs false

/-- An object's ID. -/
def idK (k : Int) (b : List UInt8) : Gid := (strOfNums (hexL (shaAll (headL k (bk b).size ++ bytesOf (bk b))))).data.toList
/-- One object more, if its ID is not there. -/
def addK (R : List Kn) (k : Int) (b : List UInt8) : List Kn := if (getK R (idK k b)).isSome then R else R ++ [⟨k, b, idK k b⟩]
def AddK (K : Nat → Prop) (r : Nat) (R : List Kn) (k : Int) (b : List UInt8) (w : World) (e : Ending) (w' : World) : Prop :=
  e = .returned (.string (bk (idK k b))) ∧ RepAt w' K r (addK R k b) ∧ Chg K w w'
theorem Src.kn {P : Program} (w : World) (x : Kn) (t : TypeId) : Src P (w.alloc (.cells #[.int .i64 x.kd, .string (bk x.b), .string (bk x.id)] t)) 3 (.slice (some ⟨w.heap.size, 0, none⟩) 1 1) 1 (knV x) :=
  Src.vals rfl (by intro u hu; simp [knV] at hu; rcases hu with rfl | rfl | rfl <;> rfl) (fun _ => ⟨_, rfl, World.news_of_block (heap_alloc_new w _)⟩)
set_option maxRecDepth 100000 in
set_option maxHeartbeats 4000000 in
theorem radd_any (K : Nat → Prop) (r : Nat) (R : List Kn) (k : Int) (b : List UInt8) (w : World) (h : RepAt w K r R) (hK : ∀ k, w.heap.size ≤ k → K k) (hl : R.length ≤ 1048576) (hb : b.length ≤ 140737488351232) :
    Calls Tryz.prog 12 #[.pointer (some ⟨r, 0, none⟩), .int .i64 k, .string (bk b)] w (AddK K r R k b w) := by
  obtain ⟨i0, hi, hz0, hz1, hz2⟩ := info_parts info_kn
  have HID := Lib.hid (ridB_any k (bk b) w (by rw [bk_size]; exact hb))
  have hidv : strOfNums (hexL (shaAll (headL k (bk b).size ++ bytesOf (bk b)))) = bk (idK k b) := by unfold idK; rw [bk_of]
  rw [hidv] at HID
  have HR := Lib.hid h
  have HK := Lib.hid hK
  have HL := Lib.hid hl
  generalize hidk : idK k b = d at *
  have HDK := Lib.hid hidk
  clear h hK hl hb hidv hidk
  go_enter Tryz.func12, Tryz.ntmps12
  go_wp2_with fail
  refine HID.out.mono ?_
  rintro e w1 ⟨rfl, hb1⟩
  have HR1 := Lib.hid (HR.out.below hb1)
  have HB1 := Lib.hid hb1
  have HGT := Lib.hid (rget_any w1 K r R d HR1.out (by have := HL.out; omega))
  clear hb1
  go_wp2_with fail
  refine HGT.out.mono ?_
  rintro e w2 ⟨rfl, hb2⟩
  have HR2 := Lib.hid (HR1.out.below hb2)
  have HB2 := Lib.hid (HB1.out.trans (hb2.mono HB1.out.size))
  clear hb2
  cases hgk : getK R d with
  | none =>
    have HRES : Hid (addK R k b = R ++ [⟨k, b, d⟩]) := Lib.hid (by unfold addK; rw [HDK.out, hgk]; rfl)
    clear hgk
    unfold getV zeroK
    go_upto_region 3 with (fail)
    have HB3 : Hid (Below w.heap.size w (w2.alloc (.cells #[.int .i64 0, .string ⟨#[]⟩, .string ⟨#[]⟩] 27))) := Lib.hid (HB2.out.trans (((Below.refl _ _).alloc (Nat.le_refl _) _).mono HB2.out.size))
    have HR3 : Hid (RepAt (w2.alloc (.cells #[.int .i64 0, .string ⟨#[]⟩, .string ⟨#[]⟩] 27)) K r R) := Lib.hid (HR2.out.below ((Below.refl _ _).alloc (Nat.le_refl _) _))
    generalize w2.alloc (.cells #[.int .i64 0, .string ⟨#[]⟩, .string ⟨#[]⟩] 27) = w3 at *
    obtain ⟨hKr, A, c, vR, vH, vT, hce, how, hoK⟩ := HR3.out
    have hnr : Value.ownBlock (.slice A R.length c) ≠ some r := how.ne_cel hce (by decide)
    have k0 : w3.cell? ⟨r, 0, none⟩ = some (.slice A R.length c) := hce.cell 0 (by decide)
    have HCE := Lib.hid hce
    have HKR := Lib.hid (And.intro hKr (And.intro hoK hnr))
    have HSRC := Lib.hid (Src.kn (P := Tryz.prog) w3 ⟨k, b, d⟩ 27)
    have HOA := Lib.hid (how.alloc (.cells #[.int .i64 k, .string (bk b), .string (bk d)] 27))
    have hm9 : R.length + 1 ≤ maxLen := by have := HL.out; unfold maxLen; omega
    have hb9 : (R.length + 1) * 40 ≤ 140737488355328 := by have := HL.out; omega
    clear hce how hoK hKr hnr
    cases vT
    all_goals
      go_wp2_with (at_builtin; go_loud (refine wpList_append_S rfl (.tmp 25) (.tmp 30) 23 23 rfl i0 (.agg #[.int .i64 0, .string ⟨#[]⟩, .string ⟨#[]⟩]) 40 (.slice 27) Tryz.underlying23 Tryz.underlying23 (fun _ h => by cases h) hi hz0 hz1 hz2 rfl rfl rfl HOA.out HSRC.out hm9 hb9 (Nat.zero_le _) ?_; intro A8 c8 w8; generalize hnn : R.length + 1 = nn at *; intro ho8 hg8 hw8; have HCE8 := Lib.hid ((HCE.out.alloc (.cells #[.int .i64 k, .string (bk b), .string (bk d)] 27)).grown hg8 HKR.out.2.2); have q8 := HCE8.out.cell 0 (by decide); have z8 := HCE8.out.frozen 0; have q9 := (HCE8.out.set 0 (.slice A8 nn c8)).cell 3 (by decide); have z9 := (HCE8.out.set 0 (.slice A8 nn c8)).frozen 3; have HO8 := Lib.hid ho8; have HG8 := Lib.hid hg8; have HH8 := Lib.hid hw8; have HNN := Lib.hid hnn; clear ho8 hg8 hw8 hnn; simp only [repF] at q9))
      have HEND : ∀ vb : Bool, AddK K r R k b w (.returned (.string (bk d))) ((w8.setCell ⟨r, 0, none⟩ (.slice A8 nn c8)).setCell ⟨r, 3, none⟩ (.bool vb)) := fun vb => by
        unfold AddK
        rw [HRES.out, HDK.out]
        have hne8 : Value.ownBlock (.slice A8 nn c8) ≠ some r := HO8.out.ne_cel HCE8.out (by decide)
        have e1 : (R ++ [(⟨k, b, d⟩ : Kn)]).length = nn := by rw [List.length_append]; exact HNN.out
        refine ⟨rfl, ⟨HKR.out.1, A8, c8, vR, vH, vb, ((HCE8.out.set 0 (.slice A8 nn c8)).set 3 _).congr (fun j hj => ?_), ?_, ?_⟩, ?_⟩
        · rw [e1]
          have : j = 0 ∨ j = 1 ∨ j = 2 ∨ j = 3 := by omega
          rcases this with rfl | rfl | rfl | rfl <;> rfl
        · rw [e1, List.flatMap_append]
          exact (HO8.out.setFar hne8 _).setFar hne8 _
        · rw [e1]
          intro q hq
          rcases HH8.out with h | h
          · exact HKR.out.2.1 q (h.symm.trans hq)
          · have : q = (w3.alloc (.cells #[.int .i64 k, .string (bk b), .string (bk d)] 27)).heap.size := by injection (hq.symm.trans h)
            refine HK.out q ?_
            have h2 := HB3.out.size
            rw [this]
            simp
            omega
        · refine Chg.setCell (Chg.setCell ?_ (.inl HKR.out.1) _) (.inl HKR.out.1) _
          exact ((Chg.of_below (S := K) HB3.out).alloc _).trans (Chg.of_grown (S := K) HG8.out fun q hq => HKR.out.2.1 q hq) (fun _ _ h => h)
      go_ret
      exact HEND _
  | some x =>
    have HRES : Hid (addK R k b = R) := Lib.hid (by unfold addK; rw [HDK.out, hgk]; rfl)
    clear hgk
    unfold getV knA
    go_upto_region 3 with (fail)
    have HB3 : Hid (Below w.heap.size w (w2.alloc (.cells #[.int .i64 x.kd, .string (bk x.b), .string (bk x.id)] 27))) := Lib.hid (HB2.out.trans (((Below.refl _ _).alloc (Nat.le_refl _) _).mono HB2.out.size))
    have HR3 : Hid (RepAt (w2.alloc (.cells #[.int .i64 x.kd, .string (bk x.b), .string (bk x.id)] 27)) K r R) := Lib.hid (HR2.out.below ((Below.refl _ _).alloc (Nat.le_refl _) _))
    have f0 : (w2.alloc (.cells #[.int .i64 x.kd, .string (bk x.b), .string (bk x.id)] 27)).cell? ⟨w2.heap.size, 0, none⟩ = some (.int .i64 x.kd) := by rw [World.cell?_alloc_at _ _ _ _ (by simp)]; rfl
    have f1 : (w2.alloc (.cells #[.int .i64 x.kd, .string (bk x.b), .string (bk x.id)] 27)).cell? ⟨w2.heap.size, 1, none⟩ = some (.string (bk x.b)) := by rw [World.cell?_alloc_at _ _ _ _ (by simp)]; rfl
    generalize w2.alloc (.cells #[.int .i64 x.kd, .string (bk x.b), .string (bk x.id)] 27) = w3 at *
    generalize w2.heap.size = g2 at *
    obtain ⟨hKr, A, c, vR, vH, vT, hce, how, hoK⟩ := HR3.out
    have hnr : Value.ownBlock (.slice A R.length c) ≠ some r := how.ne_cel hce (by decide)
    have k3 : w3.cell? ⟨r, 3, none⟩ = some (.bool vT) := hce.cell 3 (by decide)
    have z3 := hce.frozen 3
    have HEND : Hid (∀ vb : Bool, AddK K r R k b w (.returned (.string (bk d))) (w3.setCell ⟨r, 3, none⟩ (.bool vb))) := Lib.hid (fun vb => by
      unfold AddK
      rw [HRES.out, HDK.out]
      refine ⟨rfl, ⟨hKr, A, c, vR, vH, vb, (hce.set 3 _).congr (fun j hj => ?_), how.setFar hnr _, hoK⟩, (Chg.of_below (S := K) HB3.out).setCell (.inl hKr) _⟩
      have : j = 0 ∨ j = 1 ∨ j = 2 ∨ j = 3 := by omega
      rcases this with rfl | rfl | rfl | rfl <;> rfl)
    clear hce how hoK hKr hnr
    cases vT with
    | true =>
      go_wp2
      go_ret
      exact HEND.out true
    | false =>
      by_cases hk1 : x.kd = k
      · have d1 : (x.kd == k) = true := by rw [beq_iff_eq]; exact hk1
        by_cases hb1 : x.b = b
        · have d2 : ((bk x.b).toList == (bk b).toList) = true := by rw [hb1]; simp
          clear hb1
          go_wp2
          go_ret
          exact HEND.out false
        · have d2 : ((bk x.b).toList == (bk b).toList) = false := by rw [Lib.toList_data, Lib.toList_data, bk_list, bk_list, beq_eq_false_iff_ne]; exact hb1
          clear hb1
          go_wp2
          go_ret
          exact HEND.out true
      · have d1 : (x.kd == k) = false := by rw [beq_eq_false_iff_ne]; exact hk1
        go_wp2
        go_ret
        exact HEND.out true
end Go.Proofs.YtihanglnjghcfaaGreatDoor
namespace Go.Proofs.YtihanglnjghcfaaGreatDoor
open Go.RowKit
set_option linter.unusedVariables false
set_option linter.unusedSimpArgs false

/-- A number brought to a numeral, and used. -/
def forceI {α : Type} (x : Int) (k : Int → α) : α :=
  match x with
  | .ofNat 0 => k (.ofNat 0)
  | .ofNat (n + 1) => k (.ofNat (n + 1))
  | .negSucc n => k (.negSucc n)
theorem forceI_eq {α : Type} (x : Int) (k : Int → α) : forceI x k = k x := by
  unfold forceI
  split <;> rfl
def nextR (r : List Int) : Int := rotN 1 (bits .xor .u32 (bits .xor .u32 (bits .xor .u32 (r.getD 2 0) (r.getD 7 0)) (r.getD 13 0)) (r.getD 15 0))
def schF (xs : List Int) : Nat → Nat → List Int → List Int
  | 0, _, r => r
  | f + 1, t, r => forceI (if t < 16 then wordAt xs t else nextR r) fun w => schF xs f (t + 1) (w :: r)
theorem getD_rev (l : List Int) (j : Nat) (h : j < l.length) : l.reverse.getD j 0 = l.getD (l.length - 1 - j) 0 := by
  rw [List.getD_eq_getElem?_getD, List.getD_eq_getElem?_getD, List.getElem?_reverse h]
theorem schF_is (xs : List Int) : ∀ (f t : Nat), schF xs f t (schedTo xs t).reverse = (schedTo xs (t + f)).reverse
  | 0, t => rfl
  | f + 1, t => by
    unfold schF
    rw [forceI_eq]
    have e : (if t < 16 then wordAt xs t else nextR (schedTo xs t).reverse) :: (schedTo xs t).reverse = (schedTo xs (t + 1)).reverse := by
      rw [schedTo, List.reverse_append]
      by_cases h : t < 16
      · rw [if_pos h, if_pos h]; rfl
      · rw [if_neg h, if_neg h]
        have hl := schedTo_len xs t
        unfold nextR nextW
        rw [getD_rev _ _ (by omega), getD_rev _ _ (by omega), getD_rev _ _ (by omega), getD_rev _ _ (by omega), hl, show t - 1 - 2 = t - 3 by omega, show t - 1 - 7 = t - 8 by omega, show t - 1 - 13 = t - 14 by omega, show t - 1 - 15 = t - 16 by omega]
        rfl
    rw [e, schF_is xs f (t + 1), show t + 1 + f = t + (f + 1) by omega]
def runF (t : Nat) : List Int → Int → Int → Int → Int → Int → H5
  | [], a, b, c, d, e => ⟨a, b, c, d, e⟩
  | w :: W, a, b, c, d, e => forceI ((rotN 5 a + fT t b c d + e + kT t + w) % 4294967296) fun m => forceI (rotN 30 b) fun b' => runF (t + 1) W m a b' c d
theorem runF_is (xs : List Int) (h : H5) : ∀ (W : List Int) (t : Nat) (a b c d e : Int), (schedTo xs 80).drop t = W → (⟨a, b, c, d, e⟩ : H5) = runH xs h t → runF t W a b c d e = runH xs h (t + W.length)
  | [], t, a, b, c, d, e, _, hs => hs
  | w :: W, t, a, b, c, d, e, hd, hs => by
    have h1 : (schedTo xs 80).drop (t + 1) = W := by rw [← List.drop_drop, hd]; rfl
    have h2 : (schedTo xs 80).getD t 0 = w := by
      have := congrArg (fun l => l[0]?) hd
      simp only [List.getElem?_drop, Nat.add_zero, List.getElem?_cons_zero] at this
      rw [List.getD_eq_getElem?_getD, this]; rfl
    unfold runF
    rw [forceI_eq, forceI_eq, runF_is xs h W (t + 1) _ _ _ _ _ h1 (by rw [runH, ← hs]; unfold stepH; rw [h2]), List.length_cons, show t + 1 + W.length = t + (W.length + 1) by omega]
def mixK {α : Type} (h : H5) (xs : List Int) (k : H5 → α) : α :=
  match runF 0 (schF xs 80 0 []).reverse h.a h.b h.c h.d h.e with
  | ⟨a, b, c, d, e⟩ => forceI ((h.a + a) % 4294967296) fun a => forceI ((h.b + b) % 4294967296) fun b => forceI ((h.c + c) % 4294967296) fun c => forceI ((h.d + d) % 4294967296) fun d => forceI ((h.e + e) % 4294967296) fun e => k ⟨a, b, c, d, e⟩
theorem mixK_is {α : Type} (h : H5) (xs : List Int) (k : H5 → α) : mixK h xs k = k (mixH h xs) := by
  have e1 : (schF xs 80 0 []).reverse = schedTo xs 80 := by
    have := schF_is xs 80 0
    rw [show (schedTo xs 0).reverse = [] from rfl] at this
    rw [this, List.reverse_reverse, Nat.zero_add]
  have e2 := runF_is xs h (schedTo xs 80) 0 h.a h.b h.c h.d h.e (List.drop_zero) rfl
  rw [schedTo_len, Nat.zero_add] at e2
  unfold mixK
  rw [e1, e2]
  unfold mixH
  simp only [forceI_eq]
def fbF (n : Nat) (h : H5) (r : List Int) : H5 := match n with
  | 0 => h
  | n + 1 => mixK h r fun h' => fbF n h' (r.drop 64)
theorem fbF_is : ∀ (n : Nat) (h : H5) (r : List Int), fbF n h r = fb n h r
  | 0, h, r => rfl
  | n + 1, h, r => by
    unfold fbF fb
    rw [mixK_is, fbF_is n]
/-- SHA-1 of a message of so many blocks. -/
def shaF (n : Nat) (M : List Int) : List Int := shaTo (fbF n h0 M) 5
theorem shaF_is {xs M out : List Int} {n : Nat} (h1 : shaMsg xs (xs.length : Int) = M) (h2 : M.length / 64 = n) (h3 : shaF n M = out) : shaAll xs = out := by
  rw [shaAll_eq, h1, h2, ← fbF_is]
  exact h3
theorem digL_2 (n : Nat) (h1 : 9 < n) (h2 : n < 100) : digL n = [48 + ((n / 10 : Nat) : Int), 48 + ((n % 10 : Nat) : Int)] := by
  rw [digL_big h1, digL_small (by omega)]; rfl
end Go.Proofs.YtihanglnjghcfaaGreatDoor
namespace Go.Proofs.YtihanglnjghcfaaGreatDoor
open Go.RowKit
set_option linter.unusedVariables false

def et_b : List UInt8 := []
def et_d : Gid := [52, 98, 56, 50, 53, 100, 99, 54, 52, 50, 99, 98, 54, 101, 98, 57, 97, 48, 54, 48, 101, 53, 52, 98, 102, 56, 100, 54, 57, 50, 56, 56, 102, 98, 101, 101, 52, 57, 48, 52]
def et_M : List Int := [116, 114, 101, 101, 32, 48, 0, 128, 0, 0, 0, 0, 0, 0, 0, 0, 0, 0, 0, 0, 0, 0, 0, 0, 0, 0, 0, 0, 0, 0, 0, 0, 0, 0, 0, 0, 0, 0, 0, 0, 0, 0, 0, 0, 0, 0, 0, 0, 0, 0, 0, 0, 0, 0, 0, 0, 0, 0, 0, 0, 0, 0, 0, 56]
theorem et_head : headL 2 0 = [116, 114, 101, 101, 32, 48, 0] := by
  unfold headL
  rw [digL_small (by decide)]
  decide
theorem et_sha : shaF 1 et_M = [75, 130, 93, 198, 66, 203, 110, 185, 160, 96, 229, 75, 248, 214, 146, 136, 251, 238, 73, 4] := by decide +kernel
theorem et_msg : shaMsg ([116, 114, 101, 101, 32, 48, 0] ++ bytesOf (bk et_b)) 7 = et_M := by decide +kernel
theorem et_id : idK 2 et_b = et_d := by
  unfold idK
  rw [show (bk et_b).size = 0 by decide +kernel, et_head, shaF_is (xs := [116, 114, 101, 101, 32, 48, 0] ++ bytesOf (bk et_b)) et_msg (by decide +kernel) et_sha]
  decide +kernel
def ec_b : List UInt8 := [116, 114, 101, 101, 32, 52, 98, 56, 50, 53, 100, 99, 54, 52, 50, 99, 98, 54, 101, 98, 57, 97, 48, 54, 48, 101, 53, 52, 98, 102, 56, 100, 54, 57, 50, 56, 56, 102, 98, 101, 101, 52, 57, 48, 52, 10, 97, 117, 116, 104, 111, 114, 32, 65, 32, 60, 97, 62, 32, 49, 32, 43, 48, 48, 48, 48, 10, 99, 111, 109, 109, 105, 116, 116, 101, 114, 32, 65, 32, 60, 97, 62, 32, 49, 32, 43, 48, 48, 48, 48, 10, 10]
def ec_d : Gid := [54, 101, 49, 57, 99, 57, 50, 100, 99, 101, 56, 102, 49, 50, 48, 97, 50, 99, 101, 50, 100, 99, 100, 52, 100, 97, 57, 56, 49, 102, 48, 97, 51, 56, 55, 57, 57, 57, 55, 97]
def ec_M : List Int := [99, 111, 109, 109, 105, 116, 32, 57, 50, 0, 116, 114, 101, 101, 32, 52, 98, 56, 50, 53, 100, 99, 54, 52, 50, 99, 98, 54, 101, 98, 57, 97, 48, 54, 48, 101, 53, 52, 98, 102, 56, 100, 54, 57, 50, 56, 56, 102, 98, 101, 101, 52, 57, 48, 52, 10, 97, 117, 116, 104, 111, 114, 32, 65, 32, 60, 97, 62, 32, 49, 32, 43, 48, 48, 48, 48, 10, 99, 111, 109, 109, 105, 116, 116, 101, 114, 32, 65, 32, 60, 97, 62, 32, 49, 32, 43, 48, 48, 48, 48, 10, 10, 128, 0, 0, 0, 0, 0, 0, 0, 0, 0, 0, 0, 0, 0, 0, 0, 0, 0, 0, 0, 0, 0, 0, 0, 3, 48]
theorem ec_head : headL 1 92 = [99, 111, 109, 109, 105, 116, 32, 57, 50, 0] := by
  unfold headL
  rw [digL_2 _ (by decide) (by decide)]
  decide
theorem ec_sha : shaF 2 ec_M = [110, 25, 201, 45, 206, 143, 18, 10, 44, 226, 220, 212, 218, 152, 31, 10, 56, 121, 153, 122] := by decide +kernel
theorem ec_msg : shaMsg ([99, 111, 109, 109, 105, 116, 32, 57, 50, 0] ++ bytesOf (bk ec_b)) 102 = ec_M := by decide +kernel
theorem ec_id : idK 1 ec_b = ec_d := by
  unfold idK
  rw [show (bk ec_b).size = 92 by decide +kernel, ec_head, shaF_is (xs := [99, 111, 109, 109, 105, 116, 32, 57, 50, 0] ++ bytesOf (bk ec_b)) ec_msg (by decide +kernel) ec_sha]
  decide +kernel
theorem ec_ne : et_d ≠ ec_d := by decide
end Go.Proofs.YtihanglnjghcfaaGreatDoor
namespace Go.Proofs.YtihanglnjghcfaaGreatDoor
open Go.RowKit Go.Maps
set_option linter.unusedVariables false
set_option linter.unusedSimpArgs false

def kindL (R : List Kn) (k : Int) : List Gid := (R.filter fun x => x.kd == k).map (·.id)
def pickK (R : List Kn) (k : Int) (n : Nat) : Gid := if (kindL R k).length = 0 then [] else (kindL R k).getD (n % (kindL R k).length) []
theorem pickK_of (R : List Kn) (k : Int) (n : Nat) : pickK R k n = [] ∨ ∃ x ∈ R, x.kd = k ∧ x.id = pickK R k n := by
  unfold pickK
  by_cases h : (kindL R k).length = 0
  · rw [if_pos h]; exact .inl rfl
  · rw [if_neg h]
    have hlt : n % (kindL R k).length < (kindL R k).length := Nat.mod_lt _ (by omega)
    have hm : (kindL R k).getD (n % (kindL R k).length) [] ∈ kindL R k := by
      rw [List.getD_eq_getElem?_getD, List.getElem?_eq_getElem hlt]
      exact List.getElem_mem hlt
    generalize (kindL R k).getD (n % (kindL R k).length) [] = d at *
    unfold kindL at hm
    obtain ⟨x, hx, he⟩ := List.mem_map.1 hm
    have h2 := List.mem_filter.1 hx
    exact .inr ⟨x, h2.1, by simpa using h2.2, he⟩
theorem kindL_take {R : List Kn} {k : Int} {i : Nat} {x : Kn} (h : R[i]? = some x) : kindL (R.take (i + 1)) k = kindL (R.take i) k ++ (if x.kd = k then [x.id] else []) := by
  unfold kindL
  rw [List.take_add_one, h, List.filter_append, List.map_append]
  congr 1
  by_cases e : x.kd = k
  · rw [if_pos e]; simp [e]
  · rw [if_neg e]; simp [e]
theorem kindL_len (R : List Kn) (k : Int) : (kindL R k).length ≤ R.length := by unfold kindL; rw [List.length_map]; exact List.length_filter_le _ _
set_option maxRecDepth 100000 in
set_option maxHeartbeats 2000000 in
theorem pick_any (K : Nat → Prop) (r : Nat) (R : List Kn) (k : Int) (n : Nat) (w : World) (h : RepAt w K r R) (hl : R.length ≤ 1048576) (hn : n ≤ 1048576) :
    Calls Tryz.prog 52 #[.pointer (some ⟨r, 0, none⟩), .int .i64 k, .int .i64 (n : Int)] w fun e w' => e = .returned (.string (bk (pickK R k n))) ∧ Below w.heap.size w w' := by
  obtain ⟨i0, hi, hz0, hz1, hz2⟩ := info_parts info_str1
  obtain ⟨_, A, c, _, _, _, hce, how, _⟩ := h
  have hG : Hid (∀ (i : Nat) (x : Kn), R[i]? = some x → ∃ b o, A = some ⟨b, o, none⟩ ∧ b < w.heap.size ∧ w.cell? ⟨b, o + i * 3, none⟩ = some (.int .i64 x.kd) ∧ w.cell? ⟨b, o + i * 3 + 2, none⟩ = some (.string (bk x.id))) := Lib.hid (fun i x hx => by
    obtain ⟨b, o, h1, _, h2, h3⟩ := OwnS.flat knV_len (by decide) how hx
    exact ⟨b, o, h1, h2, h3 0 (by decide), h3 2 (by decide)⟩)
  have HCE := Lib.hid hce
  have HL := Lib.hid (And.intro hl hn)
  clear hce how hl hn
  go_enter Tryz.func52, Tryz.ntmps52
  go_wp2
  go_loopw [7, 8] (fun v7 v8 wr => ∃ (i m : Nat) (A7 : Option Addr) (c7 : Nat), v8 = .int .i64 i ∧ v7 = .slice A7 m c7 ∧ m = (kindL (R.take i) k).length ∧ i ≤ R.length ∧ OwnS wr w.heap.size 9 1 (.slice A7 m c7) m (strVs (kindL (R.take i) k)) ∧ Below w.heap.size w wr) (fun _ v8 _ => R.length - (intOf v8).toNat)
  case atStart => exact ⟨0, 0, none, 0, rfl, rfl, rfl, by omega, OwnS.nil _ _ _ _, Below.refl _ _⟩
  case round =>
    obtain ⟨i, m, A7, c7, rfl, rfl, hm, hil, ho, hb⟩ := hrel
    have HO := Lib.hid ho
    have HB := Lib.hid hb
    have HM := Lib.hid hm
    have k0 : wr.cell? ⟨r, 0, none⟩ = some (.slice A R.length c) := (HCE.out.below hb HCE.out.blk).cell 0 (by decide)
    clear ho hb hm
    by_cases hlt : i < R.length
    · have d1 : decide ((i : Int) < (R.length : Int)) = true := decide_eq_true (by omega)
      have d1' : decide (i < R.length) = true := decide_eq_true hlt
      obtain ⟨b, o, hA, hbl, hc0, hc2⟩ := hG.out i R[i] (List.getElem?_eq_getElem hlt)
      subst hA
      have HTK := Lib.hid (kindL_take (k := k) (List.getElem?_eq_getElem hlt))
      generalize hx : R[i] = x at *
      have f0 := (HB.out.cell (p := ⟨b, o + i * 3, none⟩) hbl).trans hc0
      have f2 := (HB.out.cell (p := ⟨b, o + i * 3 + 2, none⟩) hbl).trans hc2
      have hle : ¬ (R.length : Int) ≤ i := by omega
      have hn0 : (0 : Int) ≤ i := by omega
      have hnl : (i : Int) < R.length := by omega
      have hw1 : IntKind.i64.wrap ((i : Int) + 1) = (i : Int) + 1 := IntWalk.i64_in _ (by have := HL.out.1; omega)
      clear hc0 hc2 hbl hx
      by_cases hk : x.kd = k
      · have d2 : (x.kd == k) = true := by rw [beq_iff_eq]; exact hk
        have HTK2 : Hid (kindL (R.take (i + 1)) k = kindL (R.take i) k ++ [x.id]) := Lib.hid (by rw [HTK.out, if_pos hk])
        have HS := Lib.hid (Src.one_new (P := Tryz.prog) (w := wr) (u := .string (bk x.id)) (t := 9) rfl)
        have HOA := Lib.hid (HO.out.alloc (.cells #[.string (bk x.id)] 9))
        have HBA : Hid (Below w.heap.size w (wr.alloc (.cells #[.string (bk x.id)] 9))) := Lib.hid (HB.out.trans (((Below.refl _ _).alloc (Nat.le_refl _) _).mono HB.out.size))
        have hmm : m ≤ 1048576 := by have h1 := kindL_len (R.take i) k; have h2 := HM.out; have h3 := HL.out.1; simp only [List.length_take] at h1; omega
        have hm9 : m + 1 ≤ maxLen := by unfold maxLen; omega
        have hb9 : (m + 1) * 16 ≤ 140737488355328 := by omega
        clear hk hmm
        go_wp2_with (at_builtin; go_loud (refine wpList_append_S rfl (.tmp 28) (.tmp 37) 32 32 rfl i0 (.string ⟨#[]⟩) 16 (.slice 9) Tryz.underlying32 Tryz.underlying32 (fun _ h => by cases h) hi hz0 hz1 hz2 rfl rfl rfl HOA.out HS.out hm9 hb9 HBA.out.size ?_; intro A8 c8 w8; generalize hnn : m + 1 = nn at *; intro ho8 hg8 hw8; have HO8 := Lib.hid ho8; have HB8 := Lib.hid (HBA.out.grown hg8 HBA.out.size (fun j hj => (HOA.out.lt j hj).1)); have HNN := Lib.hid hnn; clear ho8 hg8 hw8 hnn))
        go_roundw
        case rel => exact ⟨i + 1, nn, A8, c8, rfl, rfl, by rw [HTK2.out, List.length_append, ← HM.out, ← HNN.out]; rfl, by omega, by rw [HTK2.out]; unfold strVs; rw [List.map_append]; exact HO8.out, HB8.out⟩
        case measure => simp [intOf]; omega
      · have d2 : (x.kd == k) = false := by rw [beq_eq_false_iff_ne]; exact hk
        have HTK2 : Hid (kindL (R.take (i + 1)) k = kindL (R.take i) k) := Lib.hid (by rw [HTK.out, if_neg hk, List.append_nil])
        clear hk
        go_wp2
        go_roundw
        case rel => exact ⟨i + 1, m, A7, c7, rfl, rfl, by rw [HTK2.out]; exact HM.out, by omega, by rw [HTK2.out]; exact HO.out, HB.out⟩
        case measure => simp [intOf]; omega
    · have d1 : decide ((i : Int) < (R.length : Int)) = false := decide_eq_false (by omega)
      have d1' : decide (i < R.length) = false := decide_eq_false hlt
      have HTA : Hid (R.take i = R) := Lib.hid (List.take_of_length_le (by omega))
      rw [HTA.out] at HM HO
      by_cases hz : m = 0
      · have d3 : ((m : Int) == 0) = true := by rw [beq_iff_eq]; omega
        have HRES : Hid (pickK R k n = []) := Lib.hid (by unfold pickK; rw [if_pos (by rw [← HM.out]; exact hz)])
        subst hz
        go_wp2
        go_ret
        exact ⟨by rw [HRES.out]; rfl, HB.out⟩
      · have d3 : ((m : Int) == 0) = false := by rw [beq_eq_false_iff_ne]; omega
        have d3' : ¬ (m : Int) = 0 := by omega
        have d3'' : ¬ m = 0 := hz
        have hq : n % m < m := Nat.mod_lt _ (by omega)
        obtain ⟨g, off, c', hv, _, _, hcl⟩ := HO.out.cells (by simp [strVs]; rw [← HM.out]; omega)
        injection hv with hA _ _
        have hc0 := hcl (n % m) (by simp [strVs]; rw [← HM.out]; exact hq)
        have HRES : Hid (wr.cell? ⟨g, off + n % m, none⟩ = some (.string (bk (pickK R k n)))) := Lib.hid (by
          rw [hc0]
          unfold strVs pickK
          rw [List.getElem?_map, if_neg (by rw [← HM.out]; exact hz), ← HM.out, List.getD_eq_getElem?_getD, List.getElem?_eq_getElem (by rw [← HM.out]; exact hq)]
          rfl)
        subst hA
        have f0 := HRES.out
        have ht : ((n : Int).tmod (m : Int)) = ((n % m : Nat) : Int) := by rw [Int.tmod_eq_emod_of_nonneg (by omega)]; rfl
        generalize n % m = q at *
        have hle : ¬ (m : Int) ≤ q := by omega
        have hn0 : (0 : Int) ≤ q := by omega
        have hnl : (q : Int) < m := by omega
        have hw : IntKind.i64.wrap (q : Int) = q := IntWalk.i64_in _ (by have h1 := HM.out; have h2 := kindL_len R k; have := HL.out.1; omega)
        clear hcl hc0 hq
        go_wp2
        go_ret
        exact ⟨rfl, HB.out⟩
end Go.Proofs.YtihanglnjghcfaaGreatDoor
namespace Go.Proofs.YtihanglnjghcfaaGreatDoor
open Go.RowKit
set_option linter.unusedVariables false
set_option linter.unusedSimpArgs false

/-- The document's object in memory. -/
structure O8At (w : World) (b : Nat) (kd : Int) (d : ByteArray) (vL : Value) (t : ByteArray) (vP : Value) (a c o n : ByteArray) (ty : Int) (g m : ByteArray) : Prop where
  c0 : w.cell? ⟨b, 0, none⟩ = some (.int .i64 kd)
  c1 : w.cell? ⟨b, 1, none⟩ = some (.string d)
  c2 : w.cell? ⟨b, 2, none⟩ = some (vL)
  c3 : w.cell? ⟨b, 3, none⟩ = some (.string t)
  c4 : w.cell? ⟨b, 4, none⟩ = some (vP)
  c5 : w.cell? ⟨b, 5, none⟩ = some (.string a)
  c6 : w.cell? ⟨b, 6, none⟩ = some (.string c)
  c7 : w.cell? ⟨b, 7, none⟩ = some (.string o)
  c8 : w.cell? ⟨b, 8, none⟩ = some (.string n)
  c9 : w.cell? ⟨b, 9, none⟩ = some (.int .i64 ty)
  c10 : w.cell? ⟨b, 10, none⟩ = some (.string g)
  c11 : w.cell? ⟨b, 11, none⟩ = some (.string m)
theorem O8At.lt {w : World} {b : Nat} {kd : Int} {d : ByteArray} {vL : Value} {t : ByteArray} {vP : Value} {a c o n : ByteArray} {ty : Int} {g m : ByteArray} (h : O8At w b kd d vL t vP a c o n ty g m) : b < w.heap.size := World.block_lt_of_cell? w _ h.c0
theorem O8At.below {w w' : World} {b : Nat} {kd : Int} {d : ByteArray} {vL : Value} {t : ByteArray} {vP : Value} {a c o n : ByteArray} {ty : Int} {g m : ByteArray} (h : O8At w b kd d vL t vP a c o n ty g m) (hb : Below w.heap.size w w') : O8At w' b kd d vL t vP a c o n ty g m :=
  ⟨by rw [hb.cell h.lt]; exact h.c0, by rw [hb.cell h.lt]; exact h.c1, by rw [hb.cell h.lt]; exact h.c2, by rw [hb.cell h.lt]; exact h.c3, by rw [hb.cell h.lt]; exact h.c4, by rw [hb.cell h.lt]; exact h.c5, by rw [hb.cell h.lt]; exact h.c6, by rw [hb.cell h.lt]; exact h.c7, by rw [hb.cell h.lt]; exact h.c8, by rw [hb.cell h.lt]; exact h.c9, by rw [hb.cell h.lt]; exact h.c10, by rw [hb.cell h.lt]; exact h.c11⟩
theorem O8At.new (w : World) (kd : Int) (d : ByteArray) (vL : Value) (t : ByteArray) (vP : Value) (a c o n : ByteArray) (ty : Int) (g m : ByteArray) : O8At (w.alloc (.cells #[.int .i64 kd, .string d, vL, .string t, vP, .string a, .string c, .string o, .string n, .int .i64 ty, .string g, .string m] 67)) w.heap.size kd d vL t vP a c o n ty g m :=
  ⟨by rw [World.cell?_alloc_at _ _ _ _ (by simp)]; rfl, by rw [World.cell?_alloc_at _ _ _ _ (by simp)]; rfl, by rw [World.cell?_alloc_at _ _ _ _ (by simp)]; rfl, by rw [World.cell?_alloc_at _ _ _ _ (by simp)]; rfl, by rw [World.cell?_alloc_at _ _ _ _ (by simp)]; rfl, by rw [World.cell?_alloc_at _ _ _ _ (by simp)]; rfl, by rw [World.cell?_alloc_at _ _ _ _ (by simp)]; rfl, by rw [World.cell?_alloc_at _ _ _ _ (by simp)]; rfl, by rw [World.cell?_alloc_at _ _ _ _ (by simp)]; rfl, by rw [World.cell?_alloc_at _ _ _ _ (by simp)]; rfl, by rw [World.cell?_alloc_at _ _ _ _ (by simp)]; rfl, by rw [World.cell?_alloc_at _ _ _ _ (by simp)]; rfl⟩
end Go.Proofs.YtihanglnjghcfaaGreatDoor
namespace Go.Proofs.YtihanglnjghcfaaGreatDoor
open Go.RowKit
set_option linter.unusedVariables false
set_option linter.unusedSimpArgs false

set_option maxRecDepth 100000 in
theorem rawR_any (s : ByteArray) (w : World) (hsz : s.size ≤ 140737488355328) : Calls Tryz.prog 54 #[.string s] w fun e w' => e = .returned (.string (strOfNums (rawL s))) ∧ Below w.heap.size w w' := by
  have HA := Lib.hid (hashR_any s w hsz)
  have HU := Lib.hid (fun w => unhexR_any s w hsz)
  have HZ := Lib.hid (fun w => unhexR_any zeroS w (by decide))
  have HR : Hid (rawL s = if hashB (bytesOf s) then unV (bytesOf s) else List.replicate 20 0) := rfl
  unfold UnPost at HU HZ
  rw [zero_un] at HZ
  generalize List.replicate 20 (0 : Int) = Z20 at *
  have hcv := fun (W : World) (A : Option Addr) (c : Nat) (xs : List Int) (h : Ints .u8 W A xs) => run_str_ints (P := Tryz.prog) (w := W) 48 9 5 Tryz.underlying48 Tryz.underlying5 Tryz.underlying9 A c xs h
  have HCV := Lib.hid hcv
  clear hcv
  generalize unV (bytesOf s) = V at *
  generalize unOk (bytesOf s) = ok1 at *
  generalize unOk (bytesOf zeroS) = ok2 at *
  generalize hashB (bytesOf s) = hh at *
  go_enter Tryz.func54, Tryz.ntmps54
  go_wp2_with fail
  refine HA.out.mono ?_
  rintro e w1 ⟨rfl, hb⟩
  have HB := Lib.hid hb
  clear hb HA
  cases hh
  · rw [if_neg (by decide)] at HR
    go_wp2_with (first | (go_at_call 69; refine (zeroR_any _).mono ?_; rintro e w2 ⟨rfl, rfl⟩) | (go_at_call 77; refine (HZ.out _).mono ?_; rintro e w2 ⟨A, c, rfl, hI, hb2⟩; have hcv2 := HCV.out _ _ c _ hI; have HB2 := Lib.hid hb2; clear hb2 hI))
    go_ret
    exact ⟨by rw [HR.out]; rfl, HB.out.trans (HB2.out.mono HB.out.size)⟩
  · rw [if_pos rfl] at HR
    go_wp2_with (go_at_call 77; refine (HU.out _).mono ?_; rintro e w2 ⟨A, c, rfl, hI, hb2⟩; have hcv2 := HCV.out _ _ c _ hI; have HB2 := Lib.hid hb2; clear hb2 hI)
    go_ret
    exact ⟨by rw [HR.out]; rfl, HB.out.trans (HB2.out.mono HB.out.size)⟩

end Go.Proofs.YtihanglnjghcfaaGreatDoor
