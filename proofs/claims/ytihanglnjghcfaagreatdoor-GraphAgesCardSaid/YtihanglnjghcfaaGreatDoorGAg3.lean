/- object.Kind, Header, ID. -/
import Derived.Test.YtihanglnjghcfaaGreatDoorGAg2
import Derived.Test.YtihanglnjghcfaaGreatDoorGAg0
import Derived.Shelf.SlSorted.Search
import Derived.Test.YtihanglnjghcfaaGreatDoorRows
import Derived.ProofKit
import Derived.OpenShut
import Derived.ShutString
import Derived.ChangeOld
import Derived.SizedLaws
import Derived.JoinedCond
import Derived.Lib.LaidU8T
import Derived.Maps.Own
import Derived.Test.YtihanglnjghcfaaGreatDoorGAg1
namespace Go.Proofs.YtihanglnjghcfaaGreatDoor
open Go.RowKit
set_option linter.unusedVariables false
set_option linter.unusedSimpArgs false

def isName (s : ByteArray) (k : Nat) : Bool := (strOfNums (nameL (k : Int))).toList == s.toList
/-- The kind that a name is. -/
def kindN (s : ByteArray) : Nat := if isName s 1 then 1 else if isName s 2 then 2 else if isName s 3 then 3 else if isName s 4 then 4 else 0
theorem kindN_at (s : ByteArray) (k : Nat) (h1 : 1 ≤ k) (h4 : k ≤ 4) (hb : ∀ j, 1 ≤ j → j < k → isName s j = false) (h : isName s k = true) : kindN s = k := by
  unfold kindN
  have : k = 1 ∨ k = 2 ∨ k = 3 ∨ k = 4 := by omega
  rcases this with rfl | rfl | rfl | rfl
  · rw [if_pos h]
  · rw [if_neg (by rw [hb 1 (by omega) (by omega)]; decide), if_pos h]
  · rw [if_neg (by rw [hb 1 (by omega) (by omega)]; decide), if_neg (by rw [hb 2 (by omega) (by omega)]; decide), if_pos h]
  · rw [if_neg (by rw [hb 1 (by omega) (by omega)]; decide), if_neg (by rw [hb 2 (by omega) (by omega)]; decide), if_neg (by rw [hb 3 (by omega) (by omega)]; decide), if_pos h]
theorem kindN_no (s : ByteArray) (hb : ∀ j, 1 ≤ j → j < 5 → isName s j = false) : kindN s = 0 := by
  unfold kindN
  rw [if_neg (by rw [hb 1 (by omega) (by omega)]; decide), if_neg (by rw [hb 2 (by omega) (by omega)]; decide), if_neg (by rw [hb 3 (by omega) (by omega)]; decide), if_neg (by rw [hb 4 (by omega) (by omega)]; decide)]
def KindPost (s : ByteArray) (w : World) (e : Ending) (w' : World) : Prop := e = .returned (.tuple #[.int .i64 ((kindN s : Nat) : Int), .bool (decide (0 < kindN s))]) ∧ Below w.heap.size w w'
set_option maxRecDepth 100000 in
theorem kind_any (s : ByteArray) (w : World) : Calls Tryz.prog 115 #[.string s] w (KindPost s w) := by
  have hnm := names_any w
  have hx := fun (k : Nat) (hk : k < 5) w' => name_ix k hk w'
  generalize namesV = V at *
  have HX := Lib.hid hx
  clear hx
  go_enter Tryz.func115, Tryz.ntmps115
  go_wp2_with (refine hnm.mono ?_; rintro e w1 ⟨rfl, hb1⟩)
  have HB := Lib.hid hb1
  clear hb1 hnm
  go_loopw [4, 5, 7] (fun _ _ v wr => ∃ k : Nat, v = .int .i64 (k : Int) ∧ k ≤ 5 ∧ wr = w1 ∧ ∀ j, 1 ≤ j → j < k → isName s j = false) (fun _ _ v _ => 5 - (intOf v).toNat)
  case atStart => exact ⟨0, rfl, by omega, rfl, fun j h1 h2 => by omega⟩
  case round =>
    obtain ⟨k, rfl, hk, rfl, hno⟩ := hrel
    have HN := Lib.hid hno
    clear hno
    by_cases hk5 : k < 5
    · have d0 : decide ((k : Int) < 5) = true := decide_eq_true (by omega)
      have hix := fun w' => HX.out k hk5 w'
      by_cases h0 : 0 < k
      · have d1 : decide ((0 : Int) < (k : Int)) = true := decide_eq_true (by omega)
        cases hn : isName s k
        · have hn' : ((strOfNums (nameL (k : Int))).toList == s.toList) = false := hn
          have HS : Hid (∀ j, 1 ≤ j → j < k + 1 → isName s j = false) := Lib.hid (fun j h1 h2 => by
            by_cases hj : j = k
            · rw [hj]; exact hn
            · exact HN.out j h1 (by omega))
          clear hn
          go_wp2
          go_roundw
          case rel => exact ⟨k + 1, by go_num, by omega, by first | rfl | trivial, HS.out⟩
          case measure => simp [intOf]; omega
        · have hn' : ((strOfNums (nameL (k : Int))).toList == s.toList) = true := hn
          have HS := Lib.hid (kindN_at s k h0 (by omega) HN.out hn)
          clear hn
          go_wp2
          go_ret2
          unfold KindPost
          rw [HS.out]
          exact ⟨by rw [decide_eq_true h0]; rfl, HB.out⟩
      · obtain rfl : k = 0 := by omega
        have HS : Hid (∀ j, 1 ≤ j → j < 0 + 1 → isName s j = false) := Lib.hid (fun j h1 h2 => by omega)
        have d1 : decide ((0 : Int) < ((0 : Nat) : Int)) = false := by decide
        clear hix
        have hix : ∀ w', (Instr.index 182 V (.int .i64 0)).run Tryz.prog w' = .ok (.string (strOfNums (nameL 0))) w' := fun w' => HX.out 0 (by omega) w'
        go_wp2
        go_roundw
        case rel => exact ⟨1, by go_num, by omega, by first | rfl | trivial, HS.out⟩
        case measure => simp [intOf]
    · obtain rfl : k = 5 := by omega
      have d0 : decide (((5 : Nat) : Int) < 5) = false := by decide
      have HS := Lib.hid (kindN_no s HN.out)
      go_wp2
      go_ret2
      unfold KindPost
      rw [HS.out]
      exact ⟨rfl, HB.out⟩
end Go.Proofs.YtihanglnjghcfaaGreatDoor
namespace Go.Proofs.YtihanglnjghcfaaGreatDoor
open Go.RowKit
set_option linter.unusedVariables false
set_option linter.unusedSimpArgs false

/-- What the walks ask of the library's own variables. -/
structure EnvO (w : World) : Prop where
  tabs : Lib.Utf8Tabs 1 2 w
theorem EnvO.below {w w' : World} (h : EnvO w) (hb : Below w.heap.size w w') : EnvO w' := ⟨Utf8Tabs_below h.tabs hb⟩
end Go.Proofs.YtihanglnjghcfaaGreatDoor
namespace Go.Proofs.YtihanglnjghcfaaGreatDoor
open Go.ChangeShapes Go.WideShapes Go.ChangeAt Go.RowKit
open Go.ChangeMaps (open_string shut_string)

theorem own : ownKnob Tryz.prog.godebug = none := by kernel_rfl
theorem laidOut : laidOutB Tryz.prog = true := by kernel_rfl

theorem openInts {H : Type} {enc : TypeId × Value → H} {P : Program} {W : World} {base : Nat} {ts : List TypeId} {ds : List (DataW H)} {j : Nat} {t e : TypeId} {k : IntKind} {v : Value} {d : DataW H} {p : List MemPlace}
    (ht : P.underlying t = some (.slice e)) (he : P.underlying e = some (.int k)) (hC : P.cellsOf e = 1) (hval : Value.okWide P W .any base t v) (h : DataW.Trod enc P W 0 (fun _ => true) true t v d p)
    (hsz : (DataW.weightsEach P ts ds).all (· ≤ reachBytes) = true) (htj : ts[j]? = some t) (hdj : ds[j]? = some d) :
    ∃ (A : Option Addr) (c : Nat) (xs : List Int), v = .slice A xs.length c ∧ Ints k W A xs ∧ (∀ x ∈ xs, (Lit.int k x).wf = true) ∧ xs.length * P.bytesOf e ≤ 140737488351232 := by
  obtain ⟨a0, len0, cap0, rfl⟩ := okWide_slice ht hval
  have hlt : ∀ x ∈ p, x.block < W.heap.size := by obtain ⟨m, hm⟩ := h; exact DataW.trod_lt m _ _ _ hm
  obtain ⟨fuel, hf⟩ := h
  rcases open_ints ht he hC hf with ⟨hcs, _⟩ | ⟨x, l, c, zs, hcs, _, hl, hm, hz, hx, hcell, hwz⟩
  · simp [Value.cells] at hcs
    obtain ⟨rfl, rfl, rfl⟩ := hcs
    exact ⟨none, 0, [], rfl, Ints.nil, by simp, by simp⟩
  · simp [Value.cells] at hcs
    obtain ⟨rfl, rfl, rfl⟩ := hcs
    simp only [Prod.mk.injEq] at hx
    obtain ⟨rfl, rfl⟩ := hx
    have hzl : zs.length = cap0 := by simpa using hz
    have hs := sized_slice hsz htj hdj ht
    simp only [lits, List.length_map, List.length_take, List.length_drop, reachBytes] at hs
    refine ⟨some x, cap0, zs.take len0, by rw [List.length_take_of_le (by omega)], ?_, fun y hy => hwz y (List.mem_of_mem_take hy), ?_⟩
    · intro h0
      obtain ⟨b, o, sp⟩ := x
      rw [List.length_take_of_le (by omega)] at h0
      have hsp : sp = none := by simpa [Addr.add] using World.cell?_spot (hcell 0 (by omega))
      subst hsp
      refine ⟨b, o, rfl, ?_, fun i hi => ?_⟩
      · have h1 := hcell 0 (by omega)
        have := World.block_lt_of_cell? W _ h1
        simpa [Addr.add] using this
      · rw [List.length_take_of_le (by omega)] at hi
        have h1 := hcell i (by omega)
        have h2 : (⟨b, o, none⟩ : Addr).add i = ⟨b, o + i, none⟩ := by unfold Addr.add; split <;> simp_all
        rw [h2] at h1
        rw [h1]
        simp [List.getD_eq_getElem?_getD, hi]
    · rw [List.length_take_of_le (by omega)]
      refine Nat.le_trans ?_ hs
      exact Nat.mul_le_mul_right _ (by omega)
end Go.Proofs.YtihanglnjghcfaaGreatDoor
namespace Go.Proofs.YtihanglnjghcfaaGreatDoor
open Go.ChangeShapes Go.WideShapes Go.ChangeAt Go.RowKit

def setTab (cs : Array Value) : Obj → Obj
  | .cells _ t frozen => .cells cs t frozen
  | o => o
def firstCells : Array Value := (Go.Pinned.utf8FirstZ.map fun n : Nat => Value.int .u8 (n : Int)).toArray
def acceptCells : Array Value := ((List.range 16).flatMap fun i => [Value.int .u8 (Lib.accLo i), Value.int .u8 (Lib.accHi i)]).toArray
/-- The settled world, the listed tables holding what their initialisers lay. -/
noncomputable def laidWorld (os : Os) : World :=
  { World.holding Tryz.prog os ⟨#[], #[], []⟩ with heap := ((World.holding Tryz.prog os ⟨#[], #[], []⟩).heap.modify 1 (setTab firstCells)).modify 2 (setTab acceptCells) }
theorem u8x : Go.Proofs.U8Extra Tryz.prog Tryz.lays196_ren := ⟨by kernel_rfl, by kernel_rfl, by kernel_rfl, by kernel_rfl, by kernel_rfl, by kernel_rfl, by kernel_rfl⟩
theorem first_eq : Go.Pinned.utf8First = Lib.firstData := by kernel_rfl
theorem env_of {laid : List (String × DataW Unit)} {W : World} (hlaid : laid = [("unicode/utf8.acceptRanges", Rows.laid_unicode_utf8_acceptRanges), ("unicode/utf8.first", Rows.laid_unicode_utf8_first)]) (h : laidMetH Tryz.prog laid W) : EnvO W := by
  subst hlaid
  have hl : laidMet Tryz.prog [("unicode/utf8.acceptRanges", Rows.laid_unicode_utf8_acceptRanges), ("unicode/utf8.first", Rows.laid_unicode_utf8_first)] W := h
  have h3 : Lib.VarReads Tryz.prog W "unicode/utf8.first" Lib.firstData := by
    rw [← first_eq]
    exact Lib.laidMet.reads hl (by simp [Rows.laid_unicode_utf8_first])
  have h4 : Lib.VarReads Tryz.prog W "unicode/utf8.acceptRanges" Lib.acceptData := by
    have e : (Rows.laid_unicode_utf8_acceptRanges : DataW Unit) = Lib.acceptData := by kernel_rfl
    rw [← e]
    exact Lib.laidMet.reads hl (by simp)
  exact ⟨Go.Proofs.utf8Tabs_of_readsT (P := Tryz.prog) (ρ := Tryz.lays196_ren) { Tryz.lays196 with } u8x h3 h4⟩
theorem int_le {x : Int} (h : (Lit.int .i64 x).wf = true) : x ≤ 9223372036854775807 := by
  simp only [Lit.wf, IntKind.min, IntKind.max, IntKind.bits, IntKind.signed] at h
  simp at h
  omega
end Go.Proofs.YtihanglnjghcfaaGreatDoor
namespace Go.Proofs.YtihanglnjghcfaaGreatDoor
set_option linter.unusedVariables false
set_option linter.unusedSimpArgs false

abbrev Gid := List UInt8
/-- A link: an ID, and the kind that it must have. -/
structure Glk where
  id : Gid
  kd : Int
  deriving DecidableEq
/-- An object: its kind, its ID, and its links, if it is read at all; the parents, if it is a commit; what it is of, if it is a tag. -/
structure Gob where
  kd : Int
  id : Gid
  lk : Option (List Glk)
  pa : Option (List Gid)
  tg : Option Gid
/-- A walk's item: an ID and its kind (0: any). -/
structure Git where
  id : Gid
  kd : Int
/-- An ID's place in the list. -/
def atG (l : List Git) (id : Gid) : Option Nat := l.findIdx? fun x => x.id == id
theorem atG_none {l : List Git} {id : Gid} : atG l id = none ↔ ∀ x ∈ l, x.id ≠ id := by
  unfold atG
  rw [List.findIdx?_eq_none_iff]
  simp
/-- The walk's add: the list behind it, and whether the kinds agree. -/
def addG (l : List Git) (k : Glk) : List Git × Bool :=
  match atG l k.id with
  | none => (l ++ [⟨k.id, k.kd⟩], true)
  | some i =>
    let x := (l[i]?.map (·.kd)).getD 0
    if x = 0 then (l.modify i fun y => ⟨y.id, k.kd⟩, true) else (l, k.kd = 0 || x = k.kd)
/-- The links of one object laid into the list; none: the kinds do not agree. -/
def linksG (l : List Git) : List Glk → Option (List Git)
  | [] => some l
  | k :: ks => if (addG l k).2 then linksG (addG l k).1 ks else none
/-- One item looked at: the list behind it, or the error. -/
def lookG (G : Gid → Option Gob) (l : List Git) (i : Nat) : Except Int (List Git) :=
  match l[i]? with
  | none => .ok l
  | some x =>
    match G x.id with
    | none => .error 61
    | some o =>
      match o.lk with
      | none => .error 3
      | some ks =>
        if x.kd ≠ 0 ∧ x.kd ≠ o.kd then .error 3 else
        match linksG (l.modify i fun y => ⟨y.id, o.kd⟩) ks with
        | none => .error 3
        | some m => .ok m
/-- The walk from place i on, for so many rounds. -/
def goG (G : Gid → Option Gob) (most : Int) : Nat → Nat → List Git → Except Int (List Git)
  | 0, _, l => .ok l
  | n + 1, i, l =>
    if i < l.length then
      if (i : Int) ≥ max most 0 then .error 5 else
      match lookG G l i with
      | .error e => .error e
      | .ok m => goG G most n (i + 1) m
    else .ok l

/-! ### IDs in the list are unlike -/
def OneG (l : List Git) : Prop := (l.map (·.id)).Nodup
theorem modify_ids (l : List Git) (i : Nat) (d : Int) : (l.modify i fun y => ⟨y.id, d⟩).map (·.id) = l.map (·.id) := by
  apply List.ext_getElem?
  intro j
  rw [List.getElem?_map, List.getElem?_modify, List.getElem?_map]
  cases l[j]? with
  | none => simp
  | some y => simp only [Option.map_some]; split <;> rfl
theorem snoc_one {l : List Git} (h : OneG l) {id : Gid} (d : Int) (hn : atG l id = none) : OneG (l ++ [⟨id, d⟩]) := by
  unfold OneG at *
  rw [List.map_append, List.nodup_append]
  refine ⟨h, by simp, fun a ha b hb => ?_⟩
  obtain ⟨x, hx, rfl⟩ := List.mem_map.1 ha
  simp at hb
  subst hb
  exact atG_none.1 hn x hx
theorem addG_one {l : List Git} (h : OneG l) (k : Glk) : OneG (addG l k).1 := by
  unfold addG
  cases hat : atG l k.id with
  | none => exact snoc_one h _ hat
  | some i =>
    dsimp only
    split
    · unfold OneG at *
      rw [modify_ids]; exact h
    · exact h
end Go.Proofs.YtihanglnjghcfaaGreatDoor
namespace Go.Proofs.YtihanglnjghcfaaGreatDoor
set_option linter.unusedVariables false
set_option linter.unusedSimpArgs false

/-! ### a walk ends -/
theorem nodup_sub_len : ∀ (a b : List Gid), a.Nodup → (∀ x ∈ a, x ∈ b) → a.length ≤ b.length
  | [], b, _, _ => Nat.zero_le _
  | x :: a, b, hn, hs => by
    obtain ⟨h1, h2⟩ := List.nodup_cons.1 hn
    have hx : x ∈ b := hs x (by simp)
    have := nodup_sub_len a (b.erase x) h2 fun y hy => (List.mem_erase_of_ne (fun e => h1 (by rw [← e]; exact hy))).2 (hs y (by simp [hy]))
    rw [List.length_erase_of_mem hx] at this
    have hb : 0 < b.length := List.length_pos_of_mem hx
    simp only [List.length_cons]
    omega
theorem addG_pre (l : List Git) (k : Glk) : ∃ t, (addG l k).1.map (·.id) = l.map (·.id) ++ t := by
  unfold addG
  cases atG l k.id with
  | none => exact ⟨[k.id], by simp⟩
  | some i =>
    dsimp only
    split
    · exact ⟨[], by rw [modify_ids]; simp⟩
    · exact ⟨[], by simp⟩
end Go.Proofs.YtihanglnjghcfaaGreatDoor
namespace Go.Proofs.YtihanglnjghcfaaGreatDoor
set_option linter.unusedVariables false
set_option linter.unusedSimpArgs false

def parG (l : List Gid) : List Gid → List Gid
  | [] => l
  | p :: ps => parG (if p ∈ l then l else l ++ [p]) ps
def ancP (G : Gid → Option Gob) (most : Int) (a : Gid) : Nat → Nat → List Gid → Except Int Bool
  | 0, _, _ => .ok false
  | n + 1, i, l =>
    match l[i]? with
    | none => .ok false
    | some d =>
      if a ∈ l then .ok true else
      if (i : Int) ≥ max most 0 then .error 5 else
      match G d with
      | none => .error 61
      | some o => match o.pa with | none => .error 3 | some ps => ancP G most a n (i + 1) (parG l ps)
/-- The document's way: none: a is met. -/
def parD (a : Gid) (l : List Gid) : List Gid → Option (List Gid)
  | [] => some l
  | p :: ps => if p = a then none else parD a (if p ∈ l then l else l ++ [p]) ps
def ancD (G : Gid → Option Gob) (most : Int) (a : Gid) : Nat → Nat → List Gid → Except Int Bool
  | 0, _, _ => .ok false
  | n + 1, i, l =>
    match l[i]? with
    | none => .ok false
    | some d =>
      if (i : Int) ≥ max most 0 then .error 5 else
      match G d with
      | none => .error 61
      | some o => match o.pa with | none => .error 3 | some ps => match parD a l ps with | none => .ok true | some m => ancD G most a n (i + 1) m
theorem parG_mem {x : Gid} : ∀ (ps l : List Gid), x ∈ parG l ps ↔ x ∈ l ∨ x ∈ ps
  | [], l => by simp [parG]
  | p :: ps, l => by
    unfold parG
    rw [parG_mem ps, List.mem_cons]
    split
    · rename_i h
      constructor
      · rintro (h1 | h1) <;> simp [h1]
      · rintro (h1 | rfl | h1)
        · exact .inl h1
        · exact .inl h
        · exact .inr h1
    · rw [List.mem_append, List.mem_singleton]
      constructor
      · rintro ((h1 | h1) | h1) <;> simp [h1]
      · rintro (h1 | h1 | h1) <;> simp [h1]
theorem parG_len : ∀ (ps l : List Gid), l.length ≤ (parG l ps).length
  | [], l => Nat.le_refl _
  | p :: ps, l => by
    unfold parG
    refine Nat.le_trans ?_ (parG_len ps _)
    split
    · exact Nat.le_refl _
    · simp
theorem parG_pre : ∀ (ps l : List Gid), ∃ t, parG l ps = l ++ t
  | [], l => ⟨[], by simp [parG]⟩
  | p :: ps, l => by
    unfold parG
    split
    · exact parG_pre ps l
    · obtain ⟨t, ht⟩ := parG_pre ps (l ++ [p])
      exact ⟨[p] ++ t, by rw [ht, List.append_assoc]⟩
theorem parG_nodup : ∀ (ps l : List Gid), l.Nodup → (parG l ps).Nodup
  | [], l, h => h
  | p :: ps, l, h => by
    unfold parG
    refine parG_nodup ps _ ?_
    split
    · exact h
    · rename_i hp
      rw [List.nodup_append]
      exact ⟨h, by simp, fun a ha b hb => by simp at hb; subst hb; exact fun e => hp (e ▸ ha)⟩
theorem parD_some {a : Gid} : ∀ (ps l m : List Gid), parD a l ps = some m → m = parG l ps ∧ a ∉ ps
  | [], l, m, h => by simp [parD] at h; exact ⟨h.symm, by simp⟩
  | p :: ps, l, m, h => by
    unfold parD at h
    split at h
    · cases h
    · rename_i hp
      obtain ⟨h1, h2⟩ := parD_some ps _ m h
      exact ⟨h1, by simp; exact ⟨fun e => hp e.symm, h2⟩⟩
theorem parD_none {a : Gid} : ∀ (ps l : List Gid), parD a l ps = none → a ∈ ps
  | [], l, h => by simp [parD] at h
  | p :: ps, l, h => by
    unfold parD at h
    split at h
    · rename_i hp; simp [hp]
    · exact List.mem_cons_of_mem _ (parD_none ps _ h)
theorem anc_is {R : List Gob} {G : Gid → Option Gob} (hG : ∀ d, (G d).isSome = true → d ∈ R.map (·.id)) (most : Int) (a : Gid) : ∀ (n i : Nat) (l : List Gid), a ∉ l → l.Nodup → (∀ d ∈ l.take i, d ∈ R.map (·.id)) → R.length + 1 ≤ i + n →
    ancD G most a n i l = ancP G most a (n + 1) i l := by
  have hle : ∀ (i : Nat) (l : List Gid), l.Nodup → (∀ d ∈ l.take i, d ∈ R.map (·.id)) → i ≤ l.length → i ≤ R.length := fun i l hn h hi => by
    have := nodup_sub_len (l.take i) (R.map (·.id)) (List.Nodup.sublist (List.take_sublist i l) hn) h
    simpa [List.length_take, Nat.min_eq_left hi] using this
  intro n
  induction n with
  | zero =>
    intro i l ha hn hin hf
    unfold ancD ancP
    cases hx : l[i]? with
    | none => rfl
    | some d =>
      have hi := (List.getElem?_eq_some_iff.1 hx).1
      have := hle i l hn hin (by omega)
      omega
  | succ n ih =>
    intro i l ha hn hin hf
    unfold ancD
    rw [ancP]
    cases hx : l[i]? with
    | none => rfl
    | some d =>
      have hi := (List.getElem?_eq_some_iff.1 hx).1
      dsimp only
      rw [if_neg ha]
      split
      · rfl
      · cases hg : G d with
        | none => rfl
        | some o =>
          dsimp only
          cases hp : o.pa with
          | none => rfl
          | some ps =>
            dsimp only
            have hd : d ∈ R.map (·.id) := hG d (by rw [hg]; rfl)
            have hin2 : ∀ x ∈ (parG l ps).take (i + 1), x ∈ R.map (·.id) := by
              obtain ⟨t, ht⟩ := parG_pre ps l
              rw [ht, List.take_append_of_le_length (by omega), List.take_add_one, hx]
              intro x hx2
              rcases List.mem_append.1 hx2 with h | h
              · exact hin x h
              · simp at h; rw [h]; exact hd
            cases hq : parD a l ps with
            | none =>
              dsimp only
              have ham := parD_none ps l hq
              have hml : a ∈ parG l ps := (parG_mem ps l).2 (.inr ham)
              have hlt : i + 1 < (parG l ps).length := by
                rcases Nat.lt_or_ge (i + 1) (parG l ps).length with h | h
                · exact h
                · exfalso
                  have hl2 := parG_len ps l
                  obtain ⟨t, ht⟩ := parG_pre ps l
                  have : t = [] := List.eq_nil_of_length_eq_zero (by have := congrArg List.length ht; simp at this; omega)
                  rw [ht, this, List.append_nil] at hml
                  exact ha hml
              rw [ancP, List.getElem?_eq_getElem hlt]
              dsimp only
              rw [if_pos hml]
            | some m =>
              dsimp only
              obtain ⟨rfl, hna⟩ := parD_some ps l m hq
              exact ih (i + 1) _ (fun h => by rcases (parG_mem ps l).1 h with h | h; exact ha h; exact hna h) (parG_nodup ps l hn) hin2 (by omega)
end Go.Proofs.YtihanglnjghcfaaGreatDoor
namespace Go.Proofs.YtihanglnjghcfaaGreatDoor
open Go.RowKit Go.Maps Go.WideShapes
set_option linter.unusedVariables false
set_option linter.unusedSimpArgs false

/-- Block b is a map that tells each text's place, where it has one. -/
def MapI (w : World) (b n : Nat) (f : List UInt8 → Option Nat) : Prop :=
  ∃ D : DataW Unit, w.ownsMap Tryz.prog 9 (plainElem Tryz.prog 3) b n D ∧ Maps.IsMap D ∧ ∀ (s : List UInt8) (zd : DataW Unit), D.atKey (.string s) zd = match f s with | none => zd | some i => .lit (.int .i64 (i : Int))
theorem mapi_law : Maps.Keyed Tryz.prog 9 := Maps.string_keyed Tryz.underlying9
theorem mapi_zero (w : World) : (zeroValue 3).run Tryz.prog w = .ok (.int .i64 0) w := Tryz.zeroValue3 w
section
variable {w w' : World} {b n : Nat} {f : List UInt8 → Option Nat}
theorem MapI.lt (h : MapI w b n f) : b < w.heap.size := by
  obtain ⟨D, h, _⟩ := h; exact h.lt
theorem MapI.new (w : World) : MapI (w.alloc (.map #[] 0)) w.heap.size 0 (fun _ => none) :=
  ⟨.map [], World.ownsMap_made w _ _ _, Maps.isMap_empty, fun s _ => rfl⟩
theorem MapI.same (h : MapI w b n f) (hw : w'.heap[b]? = w.heap[b]?) : MapI w' b n f := by
  obtain ⟨D, ⟨es, clock, hb, F, hs, hD⟩, h2, h3⟩ := h
  exact ⟨D, ⟨es, clock, hw.trans hb, F, hs, hD⟩, h2, h3⟩
theorem MapI.below (h : MapI w b n f) (hb : Below w.heap.size w w') : MapI w' b n f := h.same (hb.block b h.lt)
theorem MapI.chg {S : Nat → Prop} (h : MapI w b n f) (hc : Chg S w w') (hn : ¬ S b) : MapI w' b n f := h.same (hc.block b h.lt hn)
theorem MapI.setCell (h : MapI w b n f) {a : Addr} (ha : b ≠ a.block) (u : Value) : MapI (w.setCell a u) b n f := h.same (Below.heap_setCell _ _ _ _ ha)
/-- What a look-up answers. -/
def optI : Option Nat → Value
  | none => .tuple #[.int .i64 0, .bool false]
  | some i => .tuple #[.int .i64 (i : Int), .bool true]
theorem MapI.look (h : MapI w b n f) (s : ByteArray) (hs : s.size ≤ 9223372036854775807) :
    (Instr.lookup 82 (.map (some b)) (.string s) true).run Tryz.prog w = .ok (optI (f s.data.toList)) w := by
  obtain ⟨D, ⟨es, clock, hb, F, _, hD⟩, _, hat⟩ := h
  have hk : keyOf Tryz.prog 9 (.string s) = some (.string s.data.toList) := WideMaps.keyOf_string_mk Tryz.underlying9 (s := s) (by unfold maxLen; omega)
  rcases Maps.fit_look (e := 3) true mapi_law Tryz.underlying82 (mapi_zero w) hb F hk with ⟨hrun, _, h2⟩ | ⟨e0, y, _, _, hrun, hRv, h2, _⟩
  · rw [hrun]
    have h1 := h2 .nil
    rw [← hD, hat] at h1
    cases hg : f s.data.toList with
    | none => rfl
    | some i => rw [hg] at h1; cases h1
  · rw [hrun]
    have h1 := h2 .nil
    rw [← hD, hat] at h1
    obtain ⟨yd, yp⟩ := y
    obtain ⟨c, hv, hy, _⟩ := plainElem_int_inv Tryz.underlying3 hRv
    simp only [Prod.mk.injEq] at hy
    cases hg : f s.data.toList with
    | none => rw [hg] at h1; rw [hy.1] at h1; cases h1
    | some i =>
      rw [hg] at h1
      dsimp only at h1
      rw [hy.1] at h1
      have h3 : ((i : Nat) : Int) = c := congrArg (fun d : DataW Unit => match d with | .lit (.int _ n) => n | _ => 0) h1
      show Result.ok (Value.tuple #[e0.val, .bool true]) w = _
      rw [hv, ← h3]
      rfl
theorem MapI.put (h : MapI w b n f) (hn : n < 9223372036854775807) (s : ByteArray) (hs : s.size ≤ 9223372036854775807) (i : Nat) (hi : i < 9223372036854775807) :
    ∃ w', (Instr.mapUpdate 82 (.map (some b)) (.string s) (.int .i64 (i : Int))).run Tryz.prog w = .ok () w' ∧ MapI w' b (n + 1) (fun t => if t = s.data.toList then some i else f t) ∧ w.grownBy w' (some b) := by
  obtain ⟨D, hown, hm, hat⟩ := h
  have hwf : (Lit.int .i64 (i : Int)).wf = true := by
    simp only [Lit.wf, IntKind.min, IntKind.max, IntKind.bits, IntKind.signed]
    simp
    omega
  obtain ⟨w', hrun, h1, h2⟩ := hown.update mapi_law Tryz.underlying82 (by unfold maxLen; omega) (WideMaps.keyOf_string_mk Tryz.underlying9 (s := s) (by unfold maxLen; omega)) (plainElem_int Tryz.underlying3 hwf)
  refine ⟨w', hrun, ⟨_, h1, hm.put _ _, fun t zd => ?_⟩, h2⟩
  by_cases e : t = s.data.toList
  · subst e
    rw [Maps.atKey_put_same hm (by trivial)]; simp only [if_pos]
  · rw [Maps.atKey_put_other (by intro h; injection h with h; exact e h), hat]; simp only [if_neg e]
end
end Go.Proofs.YtihanglnjghcfaaGreatDoor
namespace Go.Proofs.YtihanglnjghcfaaGreatDoor
open Go.RowKit Go.Maps
set_option linter.unusedVariables false
set_option linter.unusedSimpArgs false

/-! ### rows of structs -/
/-- Rows whose elements have z cells each. -/
theorem flat_len {α : Type} (z : Nat) (g : α → List Value) (hg : ∀ x, (g x).length = z) : ∀ L : List α, (L.flatMap g).length = L.length * z
  | [] => by simp
  | x :: L => by rw [List.flatMap_cons, List.length_append, hg, flat_len z g hg L, List.length_cons, Nat.succ_mul]; omega
theorem flat_at {α : Type} (z : Nat) (g : α → List Value) (hg : ∀ x, (g x).length = z) : ∀ (L : List α) (i j : Nat) (x : α), L[i]? = some x → j < z → (L.flatMap g)[i * z + j]? = (g x)[j]?
  | [], i, j, x, h, _ => by simp at h
  | y :: L, 0, j, x, h, hj => by
    simp at h; subst h
    rw [List.flatMap_cons, Nat.zero_mul, Nat.zero_add, List.getElem?_append_left (by rw [hg]; exact hj)]
  | y :: L, i + 1, j, x, h, hj => by
    rw [List.flatMap_cons, List.getElem?_append_right (by rw [hg, Nat.succ_mul]; omega), hg, show (i + 1) * z + j - z = i * z + j by rw [Nat.succ_mul]; omega]
    exact flat_at z g hg L i j x (by simpa using h) hj
/-- The cells of such a row's element. -/
theorem OwnS.flat {α : Type} {z : Nat} {g : α → List Value} (hg : ∀ x, (g x).length = z) {w : World} {B n c : Nat} {e : TypeId} {A : Option Addr} {L : List α} (hz : 0 < z) (h : OwnS w B e z (.slice A n c) n (L.flatMap g)) {i : Nat} {x : α} (hx : L[i]? = some x) :
    ∃ b o, A = some ⟨b, o, none⟩ ∧ B ≤ b ∧ b < w.heap.size ∧ ∀ j, j < z → w.cell? ⟨b, o + i * z + j, none⟩ = (g x)[j]? := by
  have hi := (List.getElem?_eq_some_iff.1 hx).1
  have hlen := flat_len z g hg L
  have hij : ∀ j, j < z → i * z + j < L.length * z := fun j hj => by
    have : (i + 1) * z ≤ L.length * z := Nat.mul_le_mul_right z hi
    rw [Nat.succ_mul] at this
    omega
  obtain ⟨b, o, c', hv, hb, hbl, hc⟩ := h.cells (by rw [hlen]; have := hij 0 hz; omega)
  injection hv with hA _ _
  refine ⟨b, o, hA, hb, hbl, fun j hj => ?_⟩
  rw [Nat.add_assoc, hc (i * z + j) (by rw [hlen]; exact hij j hj)]
  exact flat_at z g hg L i j x hx hj
end Go.Proofs.YtihanglnjghcfaaGreatDoor
namespace Go.Proofs.YtihanglnjghcfaaGreatDoor
open Go.RowKit
set_option linter.unusedVariables false
set_option linter.unusedSimpArgs false

theorem digL_pow : ∀ (k n : Nat), n < 10 ^ (k + 1) → (digL n).length ≤ k + 1
  | 0, n, h => by
    rw [digL_small (by simp at h; omega)]
    simp
  | k + 1, n, h => by
    by_cases h9 : n ≤ 9
    · rw [digL_small h9]; simp
    · rw [digL_big (by omega), List.length_append]
      have := digL_pow k (n / 10) (by rw [Nat.pow_succ] at h; omega)
      simp
      omega
theorem digL_19 (n : Nat) (h : n < 9223372036854775808) : (digL n).length ≤ 19 := digL_pow 18 n (by omega)
theorem headL_19 (k : Int) (n : Nat) (h : n < 9223372036854775808) : (headL k n).length ≤ 27 := by
  unfold headL
  simp only [List.length_append, List.length_cons, List.length_nil]
  have := nameL_len k
  have := digL_19 n h
  omega
set_option maxRecDepth 100000 in
theorem kindR_any (s : ByteArray) (w : World) : Calls Tryz.prog 75 #[.string s] w (KindPost s w) := by
  have HNM := Lib.hid (fun (k : Int) w => rname_any k w)
  go_enter Tryz.func75, Tryz.ntmps75
  go_wp2
  go_loopw [4] (fun v wr => ∃ k : Nat, v = .int .i64 (k : Int) ∧ 1 ≤ k ∧ k ≤ 5 ∧ Below w.heap.size w wr ∧ ∀ j, 1 ≤ j → j < k → isName s j = false) (fun v _ => 5 - (intOf v).toNat)
  case atStart => exact ⟨1, rfl, by omega, by omega, Below.refl _ _, fun j h1 h2 => by omega⟩
  case round =>
    obtain ⟨k, rfl, hk1, hk, hB, hno⟩ := hrel
    have HN := Lib.hid hno
    have HB := Lib.hid hB
    clear hno hB
    by_cases hk5 : k < 5
    · have d0 : decide ((k : Int) ≤ 4) = true := decide_eq_true (by omega)
      cases hn : isName s k
      · have hn' : ((strOfNums (nameL (k : Int))).toList == s.toList) = false := hn
        have HS : Hid (∀ j, 1 ≤ j → j < k + 1 → isName s j = false) := Lib.hid (fun j h1 h2 => by
          by_cases hj : j = k
          · rw [hj]; exact hn
          · exact HN.out j h1 (by omega))
        clear hn
        go_wp2_with (refine (HNM.out (k : Int) wr).mono ?_; rintro e w1 ⟨rfl, hb1⟩)
        go_roundw
        case rel => exact ⟨k + 1, by go_num, by omega, by omega, HB.out.trans (hb1.mono HB.out.size), HS.out⟩
        case measure => simp [intOf]; omega
      · have hn' : ((strOfNums (nameL (k : Int))).toList == s.toList) = true := hn
        have HS := Lib.hid (kindN_at s k hk1 (by omega) HN.out hn)
        clear hn
        go_wp2_with (refine (HNM.out (k : Int) wr).mono ?_; rintro e w1 ⟨rfl, hb1⟩)
        go_ret2
        unfold KindPost
        rw [HS.out]
        exact ⟨by rw [decide_eq_true (show 0 < k by omega)]; rfl, HB.out.trans (hb1.mono HB.out.size)⟩
    · obtain rfl : k = 5 := by omega
      have d0 : decide (((5 : Nat) : Int) ≤ 4) = false := by decide
      have HS := Lib.hid (kindN_no s HN.out)
      go_wp2
      go_ret2
      unfold KindPost
      rw [HS.out]
      exact ⟨rfl, HB.out⟩
end Go.Proofs.YtihanglnjghcfaaGreatDoor
namespace Go.Proofs.YtihanglnjghcfaaGreatDoor
open Go.RowKit
set_option linter.unusedVariables false
set_option linter.unusedSimpArgs false

set_option maxRecDepth 100000 in
set_option maxHeartbeats 1000000 in
theorem digitsB_any (n0 : Nat) (w : World) (h0 : n0 ≤ 9223372036854775807) : Calls Tryz.prog 53 #[.int .i64 n0] w fun e w' => e = .returned (.string (strOfNums (digL n0))) ∧ Below w.heap.size w w' := by
  have hcv : ∀ (W : World) (d : Int), (convert 48 9 (.slice (some ⟨W.heap.size, 0, none⟩) 1 1)).run Tryz.prog (W.alloc (.cells #[.int .u8 d] 5)) = .ok (.string (strOfNums [d])) (W.alloc (.cells #[.int .u8 d] 5)) := fun W d =>
    run_str_ints (P := Tryz.prog) (w := W.alloc (.cells #[.int .u8 d] 5)) 48 9 5 Tryz.underlying48 Tryz.underlying5 Tryz.underlying9 (some ⟨W.heap.size, 0, none⟩) 1 [d] (fun _ => ⟨_, 0, rfl, by simp, fun j hj => by
      obtain rfl : j = 0 := by simpa using hj
      rw [cell_of_row _ _ _ _ _ _ (heap_alloc_new W _)]; rfl⟩)
  go_enter Tryz.func53, Tryz.ntmps53
  go_wp2
  go_loopw [0, 3] (fun vn vs wr => ∃ (n : Nat) (xs : List Int), vn = .int .i64 n ∧ vs = .string (strOfNums xs) ∧ digL n0 = digL n ++ xs ∧ xs.length + n ≤ n0 ∧ Below w.heap.size w wr) (fun vn _ _ => (intOf vn).toNat)
  case atStart => exact ⟨n0, [], rfl, rfl, by simp, by simp, Below.refl _ _⟩
  case round =>
    obtain ⟨n, xs, rfl, rfl, hd, hl, hB⟩ := hrel
    have hsz : (strOfNums xs).size = xs.length := strOfNums_size xs
    by_cases hn : 9 < n
    · have d1 : decide ((9 : Int) < (n : Int)) = true := decide_eq_true (by omega)
      have d1' : decide (9 < n) = true := decide_eq_true hn
      obtain ⟨q, hq⟩ : ∃ q : Nat, q = n / 10 := ⟨_, rfl⟩
      have r4 : IntKind.i64.wrap ((n : Int) / 10) = (q : Int) := by rw [IntWalk.i64_in _ (by omega)]; omega
      have HD : Hid (digL n0 = digL q ++ ((48 + (n : Int) % 10) :: xs)) := Lib.hid (by rw [hd, digL_big hn, hq, List.append_assoc]; rfl)
      have HB := Lib.hid hB
      have hcv' := hcv wr (48 + (n : Int) % 10)
      have HAPP := Lib.hid (str_app [48 + (n : Int) % 10] xs)
      have h1 : (strOfNums [48 + (n : Int) % 10]).size = 1 := strOfNums_size _
      have HLL : Hid (xs.length + 1 + q ≤ n0 ∧ q < n) := Lib.hid (by omega)
      have hxl : xs.length < 9223372036854775807 := by have e := congrArg List.length hd; rw [List.length_append] at e; have := digL_19 n0 (by omega); omega
      have hB2 : Below w.heap.size w (wr.alloc (.cells #[.int .u8 (48 + (n : Int) % 10)] 5)) := hB.trans (((Below.refl _ _).alloc (Nat.le_refl _) _).mono hB.size)
      have HB2 := Lib.hid hB2
      clear hd hB hcv hq hB2
      go_wp2
      go_roundw
      case rel => exact ⟨q, _, rfl, by rw [HAPP.out]; rfl, HD.out, by have := HLL.out; simp only [List.length_cons, List.length_append, List.length_nil]; omega, HB2.out⟩
      case measure => have := HLL.out; simp [intOf]; omega
    · have d1 : decide ((9 : Int) < (n : Int)) = false := decide_eq_false (by omega)
      have d1' : decide (9 < n) = false := decide_eq_false hn
      have r3 : IntKind.u8.wrap (n : Int) = (n : Int) := by rw [IntKind.wrap_u8']; omega
      have r5 : IntKind.u8.wrap (48 + (n : Int)) = 48 + (n : Int) := by rw [IntKind.wrap_u8']; omega
      have hcv' := hcv wr (48 + (n : Int))
      have HAPP := Lib.hid (str_app [48 + (n : Int)] xs)
      have h1 : (strOfNums [48 + (n : Int)]).size = 1 := strOfNums_size _
      have HD : Hid (digL n0 = [48 + (n : Int)] ++ xs) := Lib.hid (by rw [hd, digL_small (by omega)])
      have hxl : xs.length < 9223372036854775807 := by have e := congrArg List.length hd; rw [List.length_append] at e; have := digL_19 n0 (by omega); omega
      have HB2 : Hid (Below w.heap.size w (wr.alloc (.cells #[.int .u8 (48 + (n : Int))] 5))) := Lib.hid (hB.trans (((Below.refl _ _).alloc (Nat.le_refl _) _).mono hB.size))
      clear hd hB hcv
      go_wp2
      go_ret
      exact ⟨by rw [HAPP.out, HD.out]; rfl, HB2.out⟩
set_option maxRecDepth 100000 in
set_option maxHeartbeats 1000000 in
theorem headerN_any (k : Int) (n : Nat) (w : World) (hn : n ≤ 9223372036854775807) : Calls Tryz.prog 58 #[.int .i64 k, .int .i64 n] w fun e w' => e = .returned (.string (strOfNums (headL k n))) ∧ Below w.heap.size w w' := by
  have HNM := Lib.hid (fun w => rname_any k w)
  have HDG := Lib.hid (fun w => digitsB_any n w (by omega))
  have z1 : (strOfNums (nameL k)).size ≤ 6 := by rw [strOfNums_size]; exact nameL_len k
  have z2 : (strOfNums (digL n)).size ≤ 19 := by rw [strOfNums_size]; exact digL_19 n (by omega)
  have HR : Hid (strOfNums (nameL k) ++ ⟨#[32]⟩ ++ strOfNums (digL n) ++ ⟨#[0]⟩ = strOfNums (headL k n)) := Lib.hid (by
    unfold headL
    rw [← str_app, ← str_app, ← str_app]; rfl)
  have z3 : (strOfNums (nameL k) ++ (⟨#[32]⟩ : ByteArray)).size = (strOfNums (nameL k)).size + 1 := by rw [ByteArray.size_append]; rfl
  have z4 : (strOfNums (nameL k) ++ (⟨#[32]⟩ : ByteArray) ++ strOfNums (digL n)).size = (strOfNums (nameL k)).size + 1 + (strOfNums (digL n)).size := by rw [ByteArray.size_append, z3]
  have m0 : ¬ ((n : Int) < 0) := by omega
  generalize strOfNums (nameL k) = S1 at *
  generalize strOfNums (digL n) = S2 at *
  go_enter Tryz.func58, Tryz.ntmps58
  go_wp2_with fail
  refine (HNM.out w).mono ?_
  rintro e w1 ⟨rfl, hb1⟩
  have HB1 := Lib.hid hb1
  clear hb1
  go_wp2_with fail
  refine (HDG.out w1).mono ?_
  rintro e w2 ⟨rfl, hb2⟩
  have HB2 := Lib.hid hb2
  clear hb2
  go_wp2
  go_ret
  exact ⟨by rw [← HR.out]; rfl, HB1.out.trans (HB2.out.mono HB1.out.size)⟩
set_option maxRecDepth 100000 in
set_option maxHeartbeats 1000000 in
theorem ridB_any (k : Int) (s : ByteArray) (w : World) (hs : s.size ≤ 140737488351232) : Calls Tryz.prog 34 #[.int .i64 k, .string s] w fun e w' => e = .returned (.string (strOfNums (hexL (shaAll (headL k s.size ++ bytesOf s))))) ∧ Below w.heap.size w w' := by
  have hhl : (headL k s.size).length ≤ 27 := by
    exact headL_19 k s.size (by omega)
  have hml : (headL k s.size ++ bytesOf s).length ≤ 140737488351300 := by rw [List.length_append, bytesOf_len]; omega
  have hmb : Bytes (headL k s.size ++ bytesOf s) := fun x hx => by
    rcases List.mem_append.1 hx with h | h
    · exact headL_ok _ _ x h
    · exact bytesOf_ok s x h
  have HH := Lib.hid (fun w => headerN_any k s.size w (by omega))
  have HS := Lib.hid (fun w => oidSum_any (headL k s.size ++ bytesOf s) w hmb hml)
  have HX := Lib.hid (fun w A c hI => hexR_any A 20 c (shaAll (headL k s.size ++ bytesOf s)) w hI (oid_sha_len _) (oid_sha_bytes _) (by decide))
  have z1 : (strOfNums (headL k s.size)).size ≤ 27 := by rw [strOfNums_size]; exact hhl
  have HC : Hid (strOfNums (headL k s.size) ++ s = strOfNums (headL k s.size ++ bytesOf s)) := Lib.hid (by rw [← str_app, strOfNums_bytes])
  generalize strOfNums (headL k s.size) = S1 at *
  clear hhl hml hmb
  go_enter Tryz.func34, Tryz.ntmps34
  go_wp2_with fail
  refine (HH.out w).mono ?_
  rintro e w1 ⟨rfl, hb1⟩
  have HB1 := Lib.hid hb1
  clear hb1
  have HSS := Lib.hid (HS.out w1)
  rw [← HC.out] at HSS
  obtain ⟨S2, hS2⟩ : ∃ S2, S1 ++ s = S2 := ⟨_, rfl⟩
  rw [hS2] at HSS
  go_wp2_with fail
  refine HSS.out.mono ?_
  rintro e w2 ⟨A2, c2, rfl, ho2, hb2⟩
  have HXX := Lib.hid (HX.out w2 A2 c2 ho2.ints)
  rw [oid_sha_len]
  have HB2 := Lib.hid hb2
  clear ho2 hb2 hS2
  go_wp2_with fail
  refine HXX.out.mono ?_
  rintro e w3 ⟨rfl, hb3⟩
  have HB3 := Lib.hid hb3
  clear hb3
  go_wp2
  go_ret
  exact ⟨rfl, HB1.out.trans ((HB2.out.trans (HB3.out.mono HB2.out.size)).mono HB1.out.size)⟩
end Go.Proofs.YtihanglnjghcfaaGreatDoor
namespace Go.Proofs.YtihanglnjghcfaaGreatDoor
open Go.RowKit
set_option linter.unusedVariables false
set_option linter.unusedSimpArgs false

/-- Is a text a hash? -/
def hashB (l : List Int) : Bool := unOk l && decide ((unV l).length = 20)
set_option maxRecDepth 100000 in
theorem hash_any (s : ByteArray) (w : World) (hsz : s.size ≤ 140737488355328) : Calls Tryz.prog 110 #[.string s] w fun e w' => e = .returned (.bool (hashB (bytesOf s))) ∧ Below w.heap.size w w' := by
  have HU := Lib.hid (unhex_any s w hsz)
  go_enter Tryz.func110, Tryz.ntmps110
  go_wp2_with fail
  refine HU.out.mono ?_
  rintro e w1 ⟨A, c, rfl, hI, hb⟩
  have HB := Lib.hid hb
  have HH : Hid (hashB (bytesOf s) = (unOk (bytesOf s) && decide ((unV (bytesOf s)).length = 20))) := rfl
  generalize unV (bytesOf s) = V at *
  clear hI hb HU
  cases ho : unOk (bytesOf s)
  · rw [ho] at HH
    clear ho
    go_wp2
    go_ret
    exact ⟨by rw [HH.out]; rfl, HB.out⟩
  · rw [ho] at HH
    clear ho
    by_cases h : V.length = 20
    · have d1 : ((V.length : Int) == 20) = true := by rw [beq_iff_eq]; omega
      rw [decide_eq_true h] at HH
      clear h
      go_wp2
      go_ret
      exact ⟨by rw [HH.out]; rfl, HB.out⟩
    · have d1 : ((V.length : Int) == 20) = false := by rw [beq_eq_false_iff_ne]; omega
      rw [decide_eq_false h] at HH
      clear h
      go_wp2
      go_ret
      exact ⟨by rw [HH.out]; rfl, HB.out⟩
set_option maxRecDepth 100000 in
theorem hashR_any (s : ByteArray) (w : World) (hsz : s.size ≤ 140737488355328) : Calls Tryz.prog 72 #[.string s] w fun e w' => e = .returned (.bool (hashB (bytesOf s))) ∧ Below w.heap.size w w' := by
  have HU := Lib.hid (unhexR_any s w hsz)
  go_enter Tryz.func72, Tryz.ntmps72
  go_wp2_with fail
  refine HU.out.mono ?_
  rintro e w1 ⟨A, c, rfl, hI, hb⟩
  have HB := Lib.hid hb
  have HH : Hid (hashB (bytesOf s) = (unOk (bytesOf s) && decide ((unV (bytesOf s)).length = 20))) := rfl
  generalize unV (bytesOf s) = V at *
  clear hI hb HU
  cases ho : unOk (bytesOf s)
  · rw [ho] at HH
    clear ho
    go_wp2
    go_ret
    exact ⟨by rw [HH.out]; rfl, HB.out⟩
  · rw [ho] at HH
    clear ho
    by_cases h : V.length = 20
    · have d1 : ((V.length : Int) == 20) = true := by rw [beq_iff_eq]; omega
      rw [decide_eq_true h] at HH
      clear h
      go_wp2
      go_ret
      exact ⟨by rw [HH.out]; rfl, HB.out⟩
    · have d1 : ((V.length : Int) == 20) = false := by rw [beq_eq_false_iff_ne]; omega
      rw [decide_eq_false h] at HH
      clear h
      go_wp2
      go_ret
      exact ⟨by rw [HH.out]; rfl, HB.out⟩
end Go.Proofs.YtihanglnjghcfaaGreatDoor
namespace Go.Proofs.YtihanglnjghcfaaGreatDoor
open Go.RowKit
set_option linter.unusedVariables false
set_option linter.unusedSimpArgs false

theorem OwnS.clip {w : World} {base : Nat} {e : TypeId} {A : Option Addr} {n c : Nat} {xs : List Value} (h : OwnS w base e 1 (.slice A n c) n xs) : OwnS w base e 1 (.slice A n n) n xs := by
  refine ⟨h.1, ?_⟩
  rcases h.2 with ⟨hv, rfl⟩ | ⟨g, off, cap, cur, hv, hb, hg, hn, hm, hs, ht⟩
  · injection hv with hA _ hc
    subst hA
    exact .inl ⟨rfl, rfl⟩
  · injection hv with hA _ hc
    subst hA; subst hc
    exact .inr ⟨g, off, n, cur, rfl, hb, hg, Nat.le_refl _, by omega, by omega, ht⟩
set_option maxRecDepth 100000 in
theorem clip_any (A : Option Addr) (n c : Nat) (w : World) (hn : n ≤ c) (hc : c ≤ 9223372036854775807) :
    Calls Tryz.prog 82 #[.slice A n c] w fun e w' => e = .returned (.slice A n n) ∧ w = w' := by
  have h0 : (n : Int) ≤ c := by omega
  go_enter Tryz.func82, Tryz.ntmps82
  go_wp2
  go_ret
  exact ⟨rfl, rfl⟩
set_option maxRecDepth 100000 in
theorem clone_any (A : Option Addr) (n c : Nat) (xs : List Int) (w : World) (hI : Ints .u8 w A xs) (hn : xs.length = n) (hsz : n ≤ 140737488355000) (hA : A = none → n = 0) :
    Calls Tryz.prog 83 #[.slice A n c] w fun e w' => ∃ A' c', e = .returned (.slice A' n c') ∧ OwnS w' w.heap.size 5 1 (.slice A' n c') n (xs.map (Value.int .u8)) ∧ Below w.heap.size w w' := by
  subst hn
  obtain ⟨i0, hi, hz0, hz1, hz2⟩ := info_parts Tryz.info_u8
  have he := fun (W : World) (a : Option Addr) => Lib.run_eql_slice_nil (P := Tryz.prog) W 48 5 a xs.length c 0 0 Tryz.underlying48
  cases A with
  | none =>
    have h0 := hA rfl
    have hx : xs = [] := List.eq_nil_of_length_eq_zero h0
    subst hx
    have he0 := fun (W : World) => Lib.run_eql_slice_nil (P := Tryz.prog) W 48 5 none 0 c 0 0 Tryz.underlying48
    clear he
    show Calls Tryz.prog 83 #[.slice none 0 c] w _
    go_enter Tryz.func83, Tryz.ntmps83
    go_wp2
    go_ret
    exact ⟨none, 0, rfl, OwnS.nil _ _ _ _, Below.refl _ _⟩
  | some a =>
    go_enter Tryz.func83, Tryz.ntmps83
    go_wp2_with (at_builtin; go_loud (refine wpList_append_S rfl (.tmp 5) (.tmp 6) 48 48 rfl i0 (.int .u8 0) 1 (.slice 5) Tryz.underlying48 Tryz.underlying48 (fun _ h => by cases h) hi hz0 hz1 hz2 rfl rfl rfl (OwnS.empty (base := w.heap.size) (c := 0) (Nat.le_refl _) (heap_alloc_new w _) (by decide) (by simp)) (Src.ints (hI.below ((Below.refl _ _).alloc (Nat.le_refl _) _))) ?_ ?_ ?_ ?_; (unfold maxLen; omega); omega; (simp); intro A5 c5 w5 ho5 hg5 hw5))
    rw [Nat.zero_add, List.nil_append] at ho5
    go_ret
    exact ⟨A5, c5, rfl, ho5, ((Below.refl _ _).alloc (Nat.le_refl _) _).grown hg5 (by simp) (fun k h => by injection h with h; exact Nat.le_of_eq h)⟩

theorem OwnS.capm {w : World} {base : Nat} {e : TypeId} {size n c : Nat} {A : Option Addr} {xs : List Value} (h : OwnS w base e size (.slice A n c) n xs) : c ≤ 9223372036854775807 := by
  rcases h.2 with ⟨hv, rfl⟩ | ⟨g', off, cap, cur, hv, _, _, hn, hm, _⟩
  · injection hv with _ _ hc; omega
  · injection hv with _ _ hc
    unfold maxLen at hm
    omega
/-- Twenty bytes of an ID; noughts if it is none. -/
def rawL (s : ByteArray) : List Int := if hashB (bytesOf s) then unV (bytesOf s) else List.replicate 20 0
theorem rawL_len (s : ByteArray) : (rawL s).length = 20 := by
  unfold rawL
  split
  · next h => unfold hashB at h; simp at h; exact h.2
  · simp
def zeroS : ByteArray := ⟨#[48, 48, 48, 48, 48, 48, 48, 48, 48, 48, 48, 48, 48, 48, 48, 48, 48, 48, 48, 48, 48, 48, 48, 48, 48, 48, 48, 48, 48, 48, 48, 48, 48, 48, 48, 48, 48, 48, 48, 48]⟩
theorem zero_un : unV (bytesOf zeroS) = List.replicate 20 0 := by kernel_rfl
theorem zeroR_any (w : World) : Calls Tryz.prog 69 #[] w fun e w' => e = .returned (.string zeroS) ∧ w = w' := by
  go_enter Tryz.func69, Tryz.ntmps69
  go_wp2
  go_ret
  exact ⟨rfl, rfl⟩
/-- A string made into bytes of one's own. -/
theorem run_convO (w : World) (s : ByteArray) (hsz : s.size ≤ 140737488351300) : ∃ A cap w', (convert 9 48 (.string s)).run Tryz.prog w = .ok (.slice A s.size cap) w' ∧ OwnS w' w.heap.size 5 1 (.slice A s.size cap) s.size ((bytesOf s).map (Value.int .u8)) ∧ s.size ≤ cap ∧ cap ≤ 9223372036854775807 ∧ Below w.heap.size w w' := by
  have hge := grownCap_ge w s.size 0 5
  have hcm : grownCap w s.size 0 5 ≤ maxLen := grownCap_le_maxLen w s.size 0 5 (by unfold maxLen; omega)
  have ho := OwnS.of_str w.drew s 5 _ hge hcm
  refine ⟨_, _, _, run_bytes_of_string (P := Tryz.prog) w 9 48 5 s Tryz.underlying9 Tryz.underlying48 Tryz.underlying5, ho, hge, by unfold maxLen at hcm; omega, ((Below.refl _ _).drew).alloc (by simp) _⟩
theorem wpList_convO {ops : Array Oper} {rest : List Oper} {o : Oper} {a : Act} {Q : Exit → Act → World → Prop} {w : World} (hgd : o.guard = none) (y : Operand) (ho : o.op = .convert 9 48 y) (s : ByteArray) (n : Nat) (L : List Int) (hy : a.eval y = .string s) (hn : s.size = n) (hL : bytesOf s = L) (hsz : s.size ≤ 140737488351300)
    (h : ∀ A cap w', OwnS w' w.heap.size 5 1 (.slice A n cap) n (L.map (Value.int .u8)) → n ≤ cap → cap ≤ 9223372036854775807 → Below w.heap.size w w' → wpList Tryz.prog ops Q rest (a.put o.dst (.slice A n cap)) w') : wpList Tryz.prog ops Q (o :: rest) a w :=
  wpList_plain hgd fun _ hK => by
    subst hn; subst hL
    obtain ⟨A, cap, w', hr, h1, h2, h3, h4⟩ := run_convO w s hsz
    unfold Oper.wp execOp
    simp only [ho, hy, Sem.run_bind, hr, Result.andThen_ok, Sem.run_pure]
    exact hK _ _ (h A cap w' h1 h2 h3 h4)
end Go.Proofs.YtihanglnjghcfaaGreatDoor
