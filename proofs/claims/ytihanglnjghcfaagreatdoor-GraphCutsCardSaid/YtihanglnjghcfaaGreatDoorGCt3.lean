/- object.Kind, Header, ID. -/
import Derived.Test.YtihanglnjghcfaaGreatDoorGCt2
import Derived.Test.YtihanglnjghcfaaGreatDoorGCt0
import Derived.Shelf.SlSorted.Search
import Derived.Test.YtihanglnjghcfaaGreatDoorRows
import Derived.ProofKit
import Derived.OpenShut
import Derived.ShutString
import Derived.ChangeOld
import Derived.SizedLaws
import Derived.JoinedCond
import Derived.Lib.LaidU8T
import Derived.Maps.Own
import Derived.Test.YtihanglnjghcfaaGreatDoorGCt1
import Derived.Orders
namespace Go.Proofs.YtihanglnjghcfaaGreatDoor
open Go.RowKit
set_option linter.unusedVariables false
set_option linter.unusedSimpArgs false

def isName (s : ByteArray) (k : Nat) : Bool := (strOfNums (nameL (k : Int))).toList == s.toList
/-- The kind that a name is. -/
def kindN (s : ByteArray) : Nat := if isName s 1 then 1 else if isName s 2 then 2 else if isName s 3 then 3 else if isName s 4 then 4 else 0
theorem kindN_at (s : ByteArray) (k : Nat) (h1 : 1 ≤ k) (h4 : k ≤ 4) (hb : ∀ j, 1 ≤ j → j < k → isName s j = false) (h : isName s k = true) : kindN s = k := by
 unfold kindN
 have : k = 1 ∨ k = 2 ∨ k = 3 ∨ k = 4 := by omega
 rcases this with rfl | rfl | rfl | rfl
 · rw [if_pos h]
 · rw [if_neg (by rw [hb 1 (by omega) (by omega)]; decide), if_pos h]
 · rw [if_neg (by rw [hb 1 (by omega) (by omega)]; decide), if_neg (by rw [hb 2 (by omega) (by omega)]; decide), if_pos h]
 · rw [if_neg (by rw [hb 1 (by omega) (by omega)]; decide), if_neg (by rw [hb 2 (by omega) (by omega)]; decide), if_neg (by rw [hb 3 (by omega) (by omega)]; decide), if_pos h]
theorem kindN_no (s : ByteArray) (hb : ∀ j, 1 ≤ j → j < 5 → isName s j = false) : kindN s = 0 := by
 unfold kindN
 rw [if_neg (by rw [hb 1 (by omega) (by omega)]; decide), if_neg (by rw [hb 2 (by omega) (by omega)]; decide), if_neg (by rw [hb 3 (by omega) (by omega)]; decide), if_neg (by rw [hb 4 (by omega) (by omega)]; decide)]
def KindPost (s : ByteArray) (w : World) (e : Ending) (w' : World) : Prop := e = .returned (.tuple #[.int .i64 ((kindN s : Nat) : Int), .bool (decide (0 < kindN s))]) ∧ Below w.heap.size w w'
set_option maxRecDepth 100000 in
theorem kind_any (s : ByteArray) (w : World) : Calls Tryz.prog 115 #[.string s] w (KindPost s w) := by
 have hnm := names_any w
 have hx := fun (k : Nat) (hk : k < 5) w' => name_ix k hk w'
 generalize namesV = V at *
 have HX := Lib.hid hx
 clear hx
 go_enter Tryz.func115, Tryz.ntmps115
 go_wp2_with (refine hnm.mono ?_; rintro e w1 ⟨rfl, hb1⟩)
 have HB := Lib.hid hb1
 clear hb1 hnm
 go_loopw [4, 5, 7] (fun _ _ v wr => ∃ k : Nat, v = .int .i64 (k : Int) ∧ k ≤ 5 ∧ wr = w1 ∧ ∀ j, 1 ≤ j → j < k → isName s j = false) (fun _ _ v _ => 5 - (intOf v).toNat)
 case atStart => exact ⟨0, rfl, by omega, rfl, fun j h1 h2 => by omega⟩
 case round =>
  obtain ⟨k, rfl, hk, rfl, hno⟩ := hrel
  have HN := Lib.hid hno
  clear hno
  by_cases hk5 : k < 5
  · have d0 : decide ((k : Int) < 5) = true := decide_eq_true (by omega)
    have hix := fun w' => HX.out k hk5 w'
    by_cases h0 : 0 < k
    · have d1 : decide ((0 : Int) < (k : Int)) = true := decide_eq_true (by omega)
      cases hn : isName s k
      · have hn' : ((strOfNums (nameL (k : Int))).toList == s.toList) = false := hn
        have HS : Hid (∀ j, 1 ≤ j → j < k + 1 → isName s j = false) := Lib.hid (fun j h1 h2 => by
         by_cases hj : j = k
         · rw [hj]; exact hn
         · exact HN.out j h1 (by omega))
        clear hn
        go_wp2
        go_roundw
        case rel => exact ⟨k + 1, by go_num, by omega, by first | rfl | trivial, HS.out⟩
        case measure => simp [intOf]; omega
      · have hn' : ((strOfNums (nameL (k : Int))).toList == s.toList) = true := hn
        have HS := Lib.hid (kindN_at s k h0 (by omega) HN.out hn)
        clear hn
        go_wp2
        go_ret2
        unfold KindPost
        rw [HS.out]
        exact ⟨by rw [decide_eq_true h0]; rfl, HB.out⟩
    · obtain rfl : k = 0 := by omega
      have HS : Hid (∀ j, 1 ≤ j → j < 0 + 1 → isName s j = false) := Lib.hid (fun j h1 h2 => by omega)
      have d1 : decide ((0 : Int) < ((0 : Nat) : Int)) = false := by decide
      clear hix
      have hix : ∀ w', (Instr.index 182 V (.int .i64 0)).run Tryz.prog w' = .ok (.string (strOfNums (nameL 0))) w' := fun w' => HX.out 0 (by omega) w'
      go_wp2
      go_roundw
      case rel => exact ⟨1, by go_num, by omega, by first | rfl | trivial, HS.out⟩
      case measure => simp [intOf]
  · obtain rfl : k = 5 := by omega
    have d0 : decide (((5 : Nat) : Int) < 5) = false := by decide
    have HS := Lib.hid (kindN_no s HN.out)
    go_wp2
    go_ret2
    unfold KindPost
    rw [HS.out]
    exact ⟨rfl, HB.out⟩
end Go.Proofs.YtihanglnjghcfaaGreatDoor
namespace Go.Proofs.YtihanglnjghcfaaGreatDoor
open Go.RowKit
set_option linter.unusedVariables false
set_option linter.unusedSimpArgs false

/-- What the walks ask of the library's own variables. -/
structure EnvO (w : World) : Prop where
 tabs : Lib.Utf8Tabs 1 2 w
theorem EnvO.below {w w' : World} (h : EnvO w) (hb : Below w.heap.size w w') : EnvO w' := ⟨Utf8Tabs_below h.tabs hb⟩
end Go.Proofs.YtihanglnjghcfaaGreatDoor
namespace Go.Proofs.YtihanglnjghcfaaGreatDoor
open Go.ChangeShapes Go.WideShapes Go.ChangeAt Go.RowKit
open Go.ChangeMaps (open_string shut_string)

theorem own : ownKnob Tryz.prog.godebug = none := by kernel_rfl
theorem laidOut : laidOutB Tryz.prog = true := by kernel_rfl

theorem openInts {H : Type} {enc : TypeId × Value → H} {P : Program} {W : World} {base : Nat} {ts : List TypeId} {ds : List (DataW H)} {j : Nat} {t e : TypeId} {k : IntKind} {v : Value} {d : DataW H} {p : List MemPlace}
 (ht : P.underlying t = some (.slice e)) (he : P.underlying e = some (.int k)) (hC : P.cellsOf e = 1) (hval : Value.okWide P W .any base t v) (h : DataW.Trod enc P W 0 (fun _ => true) true t v d p)
 (hsz : (DataW.weightsEach P ts ds).all (· ≤ reachBytes) = true) (htj : ts[j]? = some t) (hdj : ds[j]? = some d) :
 ∃ (A : Option Addr) (c : Nat) (xs : List Int), v = .slice A xs.length c ∧ Ints k W A xs ∧ (∀ x ∈ xs, (Lit.int k x).wf = true) ∧ xs.length * P.bytesOf e ≤ 140737488351232 := by
 obtain ⟨a0, len0, cap0, rfl⟩ := okWide_slice ht hval
 have hlt : ∀ x ∈ p, x.block < W.heap.size := by obtain ⟨m, hm⟩ := h; exact DataW.trod_lt m _ _ _ hm
 obtain ⟨fuel, hf⟩ := h
 rcases open_ints ht he hC hf with ⟨hcs, _⟩ | ⟨x, l, c, zs, hcs, _, hl, hm, hz, hx, hcell, hwz⟩
 · simp [Value.cells] at hcs
   obtain ⟨rfl, rfl, rfl⟩ := hcs
   exact ⟨none, 0, [], rfl, Ints.nil, by simp, by simp⟩
 · simp [Value.cells] at hcs
   obtain ⟨rfl, rfl, rfl⟩ := hcs
   simp only [Prod.mk.injEq] at hx
   obtain ⟨rfl, rfl⟩ := hx
   have hzl : zs.length = cap0 := by simpa using hz
   have hs := sized_slice hsz htj hdj ht
   simp only [lits, List.length_map, List.length_take, List.length_drop, reachBytes] at hs
   refine ⟨some x, cap0, zs.take len0, by rw [List.length_take_of_le (by omega)], ?_, fun y hy => hwz y (List.mem_of_mem_take hy), ?_⟩
   · intro h0
     obtain ⟨b, o, sp⟩ := x
     rw [List.length_take_of_le (by omega)] at h0
     have hsp : sp = none := by simpa [Addr.add] using World.cell?_spot (hcell 0 (by omega))
     subst hsp
     refine ⟨b, o, rfl, ?_, fun i hi => ?_⟩
     · have h1 := hcell 0 (by omega)
       have := World.block_lt_of_cell? W _ h1
       simpa [Addr.add] using this
     · rw [List.length_take_of_le (by omega)] at hi
       have h1 := hcell i (by omega)
       have h2 : (⟨b, o, none⟩ : Addr).add i = ⟨b, o + i, none⟩ := by unfold Addr.add; split <;> simp_all
       rw [h2] at h1
       rw [h1]
       simp [List.getD_eq_getElem?_getD, hi]
   · rw [List.length_take_of_le (by omega)]
     refine Nat.le_trans ?_ hs
     exact Nat.mul_le_mul_right _ (by omega)
end Go.Proofs.YtihanglnjghcfaaGreatDoor
namespace Go.Proofs.YtihanglnjghcfaaGreatDoor
open Go.ChangeShapes Go.WideShapes Go.ChangeAt Go.RowKit

def setTab (cs : Array Value) : Obj → Obj
 | .cells _ t frozen => .cells cs t frozen
 | o => o
def firstCells : Array Value := (Go.Pinned.utf8FirstZ.map fun n : Nat => Value.int .u8 (n : Int)).toArray
def acceptCells : Array Value := ((List.range 16).flatMap fun i => [Value.int .u8 (Lib.accLo i), Value.int .u8 (Lib.accHi i)]).toArray
/-- The settled world, the listed tables holding what their initialisers lay. -/
noncomputable def laidWorld (os : Os) : World :=
 { World.holding Tryz.prog os ⟨#[], #[], []⟩ with heap := ((World.holding Tryz.prog os ⟨#[], #[], []⟩).heap.modify 1 (setTab firstCells)).modify 2 (setTab acceptCells) }
theorem u8x : Go.Proofs.U8Extra Tryz.prog Tryz.lays196_ren := ⟨by kernel_rfl, by kernel_rfl, by kernel_rfl, by kernel_rfl, by kernel_rfl, by kernel_rfl, by kernel_rfl⟩
theorem first_eq : Go.Pinned.utf8First = Lib.firstData := by kernel_rfl
theorem env_of {laid : List (String × DataW Unit)} {W : World} (hlaid : laid = [("unicode/utf8.acceptRanges", Rows.laid_unicode_utf8_acceptRanges), ("unicode/utf8.first", Rows.laid_unicode_utf8_first)]) (h : laidMetH Tryz.prog laid W) : EnvO W := by
 subst hlaid
 have hl : laidMet Tryz.prog [("unicode/utf8.acceptRanges", Rows.laid_unicode_utf8_acceptRanges), ("unicode/utf8.first", Rows.laid_unicode_utf8_first)] W := h
 have h3 : Lib.VarReads Tryz.prog W "unicode/utf8.first" Lib.firstData := by
  rw [← first_eq]
  exact Lib.laidMet.reads hl (by simp [Rows.laid_unicode_utf8_first])
 have h4 : Lib.VarReads Tryz.prog W "unicode/utf8.acceptRanges" Lib.acceptData := by
  have e : (Rows.laid_unicode_utf8_acceptRanges : DataW Unit) = Lib.acceptData := by kernel_rfl
  rw [← e]
  exact Lib.laidMet.reads hl (by simp)
 exact ⟨Go.Proofs.utf8Tabs_of_readsT (P := Tryz.prog) (ρ := Tryz.lays196_ren) { Tryz.lays196 with } u8x h3 h4⟩
theorem int_le {x : Int} (h : (Lit.int .i64 x).wf = true) : x ≤ 9223372036854775807 := by
 simp only [Lit.wf, IntKind.min, IntKind.max, IntKind.bits, IntKind.signed] at h
 simp at h
 omega
end Go.Proofs.YtihanglnjghcfaaGreatDoor
namespace Go.Proofs.YtihanglnjghcfaaGreatDoor
set_option linter.unusedVariables false
set_option linter.unusedSimpArgs false

abbrev Gid := List UInt8
/-- A link: an ID, and the kind that it must have. -/
structure Glk where
 id : Gid
 kd : Int
 deriving DecidableEq
/-- An object: its kind, its ID, and its links, if it is read at all; the parents, if it is a commit; what it is of, if it is a tag. -/
structure Gob where
 kd : Int
 id : Gid
 lk : Option (List Glk)
 pa : Option (List Gid)
 tg : Option Gid
/-- A walk's item: an ID and its kind (0: any). -/
structure Git where
 id : Gid
 kd : Int
/-- An ID's place in the list. -/
def atG (l : List Git) (id : Gid) : Option Nat := l.findIdx? fun x => x.id == id
theorem atG_none {l : List Git} {id : Gid} : atG l id = none ↔ ∀ x ∈ l, x.id ≠ id := by
 unfold atG
 rw [List.findIdx?_eq_none_iff]
 simp
/-- The walk's add: the list behind it, and whether the kinds agree. -/
def addG (l : List Git) (k : Glk) : List Git × Bool :=
 match atG l k.id with
 | none => (l ++ [⟨k.id, k.kd⟩], true)
 | some i =>
  let x := (l[i]?.map (·.kd)).getD 0
  if x = 0 then (l.modify i fun y => ⟨y.id, k.kd⟩, true) else (l, k.kd = 0 || x = k.kd)
/-- The links of one object laid into the list; none: the kinds do not agree. -/
def linksG (l : List Git) : List Glk → Option (List Git)
 | [] => some l
 | k :: ks => if (addG l k).2 then linksG (addG l k).1 ks else none
/-- One item looked at: the list behind it, or the error. -/
def lookG (G : Gid → Option Gob) (l : List Git) (i : Nat) : Except Int (List Git) :=
 match l[i]? with
 | none => .ok l
 | some x =>
  match G x.id with
  | none => .error 61
  | some o =>
   match o.lk with
   | none => .error 3
   | some ks =>
    if x.kd ≠ 0 ∧ x.kd ≠ o.kd then .error 3 else
    match linksG (l.modify i fun y => ⟨y.id, o.kd⟩) ks with
    | none => .error 3
    | some m => .ok m
/-- The walk from place i on, for so many rounds. -/
def goG (G : Gid → Option Gob) (most : Int) : Nat → Nat → List Git → Except Int (List Git)
 | 0, _, l => .ok l
 | n + 1, i, l =>
  if i < l.length then
   if (i : Int) ≥ max most 0 then .error 5 else
   match lookG G l i with
   | .error e => .error e
   | .ok m => goG G most n (i + 1) m
  else .ok l

/-! ### IDs in the list are unlike -/
def OneG (l : List Git) : Prop := (l.map (·.id)).Nodup
theorem modify_ids (l : List Git) (i : Nat) (d : Int) : (l.modify i fun y => ⟨y.id, d⟩).map (·.id) = l.map (·.id) := by
 apply List.ext_getElem?
 intro j
 rw [List.getElem?_map, List.getElem?_modify, List.getElem?_map]
 cases l[j]? with
 | none => simp
 | some y => simp only [Option.map_some]; split <;> rfl
theorem snoc_one {l : List Git} (h : OneG l) {id : Gid} (d : Int) (hn : atG l id = none) : OneG (l ++ [⟨id, d⟩]) := by
 unfold OneG at *
 rw [List.map_append, List.nodup_append]
 refine ⟨h, by simp, fun a ha b hb => ?_⟩
 obtain ⟨x, hx, rfl⟩ := List.mem_map.1 ha
 simp at hb
 subst hb
 exact atG_none.1 hn x hx
theorem addG_one {l : List Git} (h : OneG l) (k : Glk) : OneG (addG l k).1 := by
 unfold addG
 cases hat : atG l k.id with
 | none => exact snoc_one h _ hat
 | some i =>
  dsimp only
  split
  · unfold OneG at *
    rw [modify_ids]; exact h
  · exact h
theorem linksG_one : ∀ (ks : List Glk) (l m : List Git), OneG l → linksG l ks = some m → OneG m
 | [], l, m, h, hm => by simp [linksG] at hm; rw [← hm]; exact h
 | k :: ks, l, m, h, hm => by
  unfold linksG at hm
  split at hm
  · exact linksG_one ks _ m (addG_one h k) hm
  · cases hm
theorem lookG_one {G : Gid → Option Gob} {l m : List Git} {i : Nat} (h : OneG l) (hm : lookG G l i = .ok m) : OneG m := by
 unfold lookG at hm
 split at hm
 · injection hm with hm; rw [← hm]; exact h
 · split at hm
   · cases hm
   · split at hm
     · cases hm
     · split at hm
       · cases hm
       · split at hm
         · cases hm
         · rename_i hk
           injection hm with hm
           rw [← hm]
           refine linksG_one _ _ _ ?_ hk
           unfold OneG at *
           rw [modify_ids]; exact h
end Go.Proofs.YtihanglnjghcfaaGreatDoor
namespace Go.Proofs.YtihanglnjghcfaaGreatDoor
set_option linter.unusedVariables false
set_option linter.unusedSimpArgs false

/-! ### a walk ends -/
theorem nodup_sub_len : ∀ (a b : List Gid), a.Nodup → (∀ x ∈ a, x ∈ b) → a.length ≤ b.length
 | [], b, _, _ => Nat.zero_le _
 | x :: a, b, hn, hs => by
  obtain ⟨h1, h2⟩ := List.nodup_cons.1 hn
  have hx : x ∈ b := hs x (by simp)
  have := nodup_sub_len a (b.erase x) h2 fun y hy => (List.mem_erase_of_ne (fun e => h1 (by rw [← e]; exact hy))).2 (hs y (by simp [hy]))
  rw [List.length_erase_of_mem hx] at this
  have hb : 0 < b.length := List.length_pos_of_mem hx
  simp only [List.length_cons]
  omega
theorem addG_pre (l : List Git) (k : Glk) : ∃ t, (addG l k).1.map (·.id) = l.map (·.id) ++ t := by
 unfold addG
 cases atG l k.id with
 | none => exact ⟨[k.id], by simp⟩
 | some i =>
  dsimp only
  split
  · exact ⟨[], by rw [modify_ids]; simp⟩
  · exact ⟨[], by simp⟩
end Go.Proofs.YtihanglnjghcfaaGreatDoor
namespace Go.Proofs.YtihanglnjghcfaaGreatDoor
set_option linter.unusedVariables false
set_option linter.unusedSimpArgs false

def parG (l : List Gid) : List Gid → List Gid
 | [] => l
 | p :: ps => parG (if p ∈ l then l else l ++ [p]) ps
theorem parG_mem {x : Gid} : ∀ (ps l : List Gid), x ∈ parG l ps ↔ x ∈ l ∨ x ∈ ps
 | [], l => by simp [parG]
 | p :: ps, l => by
  unfold parG
  rw [parG_mem ps, List.mem_cons]
  split
  · rename_i h
    constructor
    · rintro (h1 | h1) <;> simp [h1]
    · rintro (h1 | rfl | h1)
      · exact .inl h1
      · exact .inl h
      · exact .inr h1
  · rw [List.mem_append, List.mem_singleton]
    constructor
    · rintro ((h1 | h1) | h1) <;> simp [h1]
    · rintro (h1 | h1 | h1) <;> simp [h1]
theorem parG_pre : ∀ (ps l : List Gid), ∃ t, parG l ps = l ++ t
 | [], l => ⟨[], by simp [parG]⟩
 | p :: ps, l => by
  unfold parG
  split
  · exact parG_pre ps l
  · obtain ⟨t, ht⟩ := parG_pre ps (l ++ [p])
    exact ⟨[p] ++ t, by rw [ht, List.append_assoc]⟩
theorem parG_nodup : ∀ (ps l : List Gid), l.Nodup → (parG l ps).Nodup
 | [], l, h => h
 | p :: ps, l, h => by
  unfold parG
  refine parG_nodup ps _ ?_
  split
  · exact h
  · rename_i hp
    rw [List.nodup_append]
    exact ⟨h, by simp, fun a ha b hb => by simp at hb; subst hb; exact fun e => hp (e ▸ ha)⟩
end Go.Proofs.YtihanglnjghcfaaGreatDoor
namespace Go.Proofs.YtihanglnjghcfaaGreatDoor
set_option linter.unusedVariables false
set_option linter.unusedSimpArgs false

/-- The links' IDs of an object. -/
def idsG (o : Gob) : List Gid := match o.lk with | none => [] | some ks => ks.map (·.id)
/-- One round of the program's: what the item hangs on is laid behind. -/
def thStep (G : Gid → Option Gob) (l : List Gid) (d : Gid) : List Gid := match G d with | none => l | some o => parG l (idsG o)
/-- One round of the document's: only what is there is laid behind. -/
def thereB (G : Gid → Option Gob) (d : Gid) : Bool := (G d).isSome
def thStepD (G : Gid → Option Gob) (l : List Gid) (d : Gid) : List Gid := match G d with | none => l | some o => parG l ((idsG o).filter (thereB G))
theorem parG_filter (f : Gid → Bool) : ∀ (ps l : List Gid), (parG l ps).filter f = parG (l.filter f) (ps.filter f)
 | [], l => rfl
 | p :: ps, l => by
  have e : parG l (p :: ps) = parG (if p ∈ l then l else l ++ [p]) ps := rfl
  rw [e, parG_filter f ps]
  cases hp : f p with
  | true =>
   have e2 : (p :: ps).filter f = p :: ps.filter f := List.filter_cons_of_pos (by simp [hp])
   have e3 : parG (l.filter f) (p :: ps.filter f) = parG (if p ∈ l.filter f then l.filter f else l.filter f ++ [p]) (ps.filter f) := rfl
   have hm : p ∈ l.filter f ↔ p ∈ l := by rw [List.mem_filter]; simp [hp]
   rw [e2, e3]
   by_cases h : p ∈ l
   · rw [if_pos h, if_pos (hm.2 h)]
   · rw [if_neg h, if_neg (fun h2 => h (hm.1 h2)), List.filter_append]
     simp [hp]
  | false =>
   have e2 : (p :: ps).filter f = ps.filter f := List.filter_cons_of_neg (by simp [hp])
   rw [e2]
   by_cases h : p ∈ l
   · rw [if_pos h]
   · rw [if_neg h, List.filter_append]
     simp [hp]
/-- A round of an item that is there: alike, but for what is not there. -/
theorem thStep_filter (G : Gid → Option Gob) (l : List Gid) (d : Gid) : (thStep G l d).filter (thereB G) = thStepD G (l.filter (thereB G)) d := by
 unfold thStep thStepD
 cases G d with
 | none => rfl
 | some o => exact parG_filter _ _ _
/-- A round of an item that is not there changes nothing. -/
theorem thStep_not (G : Gid → Option Gob) (l : List Gid) (d : Gid) (h : thereB G d = false) : thStep G l d = l := by
 unfold thereB at h
 unfold thStep
 cases hg : G d with
 | none => rfl
 | some o => rw [hg] at h; cases h
end Go.Proofs.YtihanglnjghcfaaGreatDoor
namespace Go.Proofs.YtihanglnjghcfaaGreatDoor
open Go.RowKit Go.Maps Go.WideShapes
set_option linter.unusedVariables false
set_option linter.unusedSimpArgs false

/-- Block b is a map that tells each text's place, where it has one. -/
def MapI (w : World) (b n : Nat) (f : List UInt8 → Option Nat) : Prop :=
 ∃ D : DataW Unit, w.ownsMap Tryz.prog 9 (plainElem Tryz.prog 3) b n D ∧ Maps.IsMap D ∧ ∀ (s : List UInt8) (zd : DataW Unit), D.atKey (.string s) zd = match f s with | none => zd | some i => .lit (.int .i64 (i : Int))
theorem mapi_law : Maps.Keyed Tryz.prog 9 := Maps.string_keyed Tryz.underlying9
theorem mapi_zero (w : World) : (zeroValue 3).run Tryz.prog w = .ok (.int .i64 0) w := Tryz.zeroValue3 w
section
variable {w w' : World} {b n : Nat} {f : List UInt8 → Option Nat}
theorem MapI.lt (h : MapI w b n f) : b < w.heap.size := by
 obtain ⟨D, h, _⟩ := h; exact h.lt
theorem MapI.new (w : World) : MapI (w.alloc (.map #[] 0)) w.heap.size 0 (fun _ => none) :=
 ⟨.map [], World.ownsMap_made w _ _ _, Maps.isMap_empty, fun s _ => rfl⟩
theorem MapI.same (h : MapI w b n f) (hw : w'.heap[b]? = w.heap[b]?) : MapI w' b n f := by
 obtain ⟨D, ⟨es, clock, hb, F, hs, hD⟩, h2, h3⟩ := h
 exact ⟨D, ⟨es, clock, hw.trans hb, F, hs, hD⟩, h2, h3⟩
theorem MapI.below (h : MapI w b n f) (hb : Below w.heap.size w w') : MapI w' b n f := h.same (hb.block b h.lt)
theorem MapI.chg {S : Nat → Prop} (h : MapI w b n f) (hc : Chg S w w') (hn : ¬ S b) : MapI w' b n f := h.same (hc.block b h.lt hn)
theorem MapI.setCell (h : MapI w b n f) {a : Addr} (ha : b ≠ a.block) (u : Value) : MapI (w.setCell a u) b n f := h.same (Below.heap_setCell _ _ _ _ ha)
/-- What a look-up answers. -/
def optI : Option Nat → Value
 | none => .tuple #[.int .i64 0, .bool false]
 | some i => .tuple #[.int .i64 (i : Int), .bool true]
theorem MapI.look (h : MapI w b n f) (s : ByteArray) (hs : s.size ≤ 9223372036854775807) :
 (Instr.lookup 82 (.map (some b)) (.string s) true).run Tryz.prog w = .ok (optI (f s.data.toList)) w := by
 obtain ⟨D, ⟨es, clock, hb, F, _, hD⟩, _, hat⟩ := h
 have hk : keyOf Tryz.prog 9 (.string s) = some (.string s.data.toList) := WideMaps.keyOf_string_mk Tryz.underlying9 (s := s) (by unfold maxLen; omega)
 rcases Maps.fit_look (e := 3) true mapi_law Tryz.underlying82 (mapi_zero w) hb F hk with ⟨hrun, _, h2⟩ | ⟨e0, y, _, _, hrun, hRv, h2, _⟩
 · rw [hrun]
   have h1 := h2 .nil
   rw [← hD, hat] at h1
   cases hg : f s.data.toList with
   | none => rfl
   | some i => rw [hg] at h1; cases h1
 · rw [hrun]
   have h1 := h2 .nil
   rw [← hD, hat] at h1
   obtain ⟨yd, yp⟩ := y
   obtain ⟨c, hv, hy, _⟩ := plainElem_int_inv Tryz.underlying3 hRv
   simp only [Prod.mk.injEq] at hy
   cases hg : f s.data.toList with
   | none => rw [hg] at h1; rw [hy.1] at h1; cases h1
   | some i =>
    rw [hg] at h1
    dsimp only at h1
    rw [hy.1] at h1
    have h3 : ((i : Nat) : Int) = c := congrArg (fun d : DataW Unit => match d with | .lit (.int _ n) => n | _ => 0) h1
    show Result.ok (Value.tuple #[e0.val, .bool true]) w = _
    rw [hv, ← h3]
    rfl
theorem MapI.put (h : MapI w b n f) (hn : n < 9223372036854775807) (s : ByteArray) (hs : s.size ≤ 9223372036854775807) (i : Nat) (hi : i < 9223372036854775807) :
 ∃ w', (Instr.mapUpdate 82 (.map (some b)) (.string s) (.int .i64 (i : Int))).run Tryz.prog w = .ok () w' ∧ MapI w' b (n + 1) (fun t => if t = s.data.toList then some i else f t) ∧ w.grownBy w' (some b) := by
 obtain ⟨D, hown, hm, hat⟩ := h
 have hwf : (Lit.int .i64 (i : Int)).wf = true := by
  simp only [Lit.wf, IntKind.min, IntKind.max, IntKind.bits, IntKind.signed]
  simp
  omega
 obtain ⟨w', hrun, h1, h2⟩ := hown.update mapi_law Tryz.underlying82 (by unfold maxLen; omega) (WideMaps.keyOf_string_mk Tryz.underlying9 (s := s) (by unfold maxLen; omega)) (plainElem_int Tryz.underlying3 hwf)
 refine ⟨w', hrun, ⟨_, h1, hm.put _ _, fun t zd => ?_⟩, h2⟩
 by_cases e : t = s.data.toList
 · subst e
   rw [Maps.atKey_put_same hm (by trivial)]; simp only [if_pos]
 · rw [Maps.atKey_put_other (by intro h; injection h with h; exact e h), hat]; simp only [if_neg e]
end
end Go.Proofs.YtihanglnjghcfaaGreatDoor
namespace Go.Proofs.YtihanglnjghcfaaGreatDoor
open Go.RowKit Go.Maps
set_option linter.unusedVariables false
set_option linter.unusedSimpArgs false

/-! ### rows of structs -/
/-- Rows whose elements have z cells each. -/
theorem flat_len {α : Type} (z : Nat) (g : α → List Value) (hg : ∀ x, (g x).length = z) : ∀ L : List α, (L.flatMap g).length = L.length * z
 | [] => by simp
 | x :: L => by rw [List.flatMap_cons, List.length_append, hg, flat_len z g hg L, List.length_cons, Nat.succ_mul]; omega
theorem flat_at {α : Type} (z : Nat) (g : α → List Value) (hg : ∀ x, (g x).length = z) : ∀ (L : List α) (i j : Nat) (x : α), L[i]? = some x → j < z → (L.flatMap g)[i * z + j]? = (g x)[j]?
 | [], i, j, x, h, _ => by simp at h
 | y :: L, 0, j, x, h, hj => by
  simp at h; subst h
  rw [List.flatMap_cons, Nat.zero_mul, Nat.zero_add, List.getElem?_append_left (by rw [hg]; exact hj)]
 | y :: L, i + 1, j, x, h, hj => by
  rw [List.flatMap_cons, List.getElem?_append_right (by rw [hg, Nat.succ_mul]; omega), hg, show (i + 1) * z + j - z = i * z + j by rw [Nat.succ_mul]; omega]
  exact flat_at z g hg L i j x (by simpa using h) hj
/-- The cells of such a row's element. -/
theorem OwnS.flat {α : Type} {z : Nat} {g : α → List Value} (hg : ∀ x, (g x).length = z) {w : World} {B n c : Nat} {e : TypeId} {A : Option Addr} {L : List α} (hz : 0 < z) (h : OwnS w B e z (.slice A n c) n (L.flatMap g)) {i : Nat} {x : α} (hx : L[i]? = some x) :
 ∃ b o, A = some ⟨b, o, none⟩ ∧ B ≤ b ∧ b < w.heap.size ∧ ∀ j, j < z → w.cell? ⟨b, o + i * z + j, none⟩ = (g x)[j]? := by
 have hi := (List.getElem?_eq_some_iff.1 hx).1
 have hlen := flat_len z g hg L
 have hij : ∀ j, j < z → i * z + j < L.length * z := fun j hj => by
  have : (i + 1) * z ≤ L.length * z := Nat.mul_le_mul_right z hi
  rw [Nat.succ_mul] at this
  omega
 obtain ⟨b, o, c', hv, hb, hbl, hc⟩ := h.cells (by rw [hlen]; have := hij 0 hz; omega)
 injection hv with hA _ _
 refine ⟨b, o, hA, hb, hbl, fun j hj => ?_⟩
 rw [Nat.add_assoc, hc (i * z + j) (by rw [hlen]; exact hij j hj)]
 exact flat_at z g hg L i j x hx hj
end Go.Proofs.YtihanglnjghcfaaGreatDoor
namespace Go.Proofs.YtihanglnjghcfaaGreatDoor
open Go.RowKit
set_option linter.unusedVariables false
set_option linter.unusedSimpArgs false

theorem digL_pow : ∀ (k n : Nat), n < 10 ^ (k + 1) → (digL n).length ≤ k + 1
 | 0, n, h => by
  rw [digL_small (by simp at h; omega)]
  simp
 | k + 1, n, h => by
  by_cases h9 : n ≤ 9
  · rw [digL_small h9]; simp
  · rw [digL_big (by omega), List.length_append]
    have := digL_pow k (n / 10) (by rw [Nat.pow_succ] at h; omega)
    simp
    omega
theorem digL_19 (n : Nat) (h : n < 9223372036854775808) : (digL n).length ≤ 19 := digL_pow 18 n (by omega)
theorem headL_19 (k : Int) (n : Nat) (h : n < 9223372036854775808) : (headL k n).length ≤ 27 := by
 unfold headL
 simp only [List.length_append, List.length_cons, List.length_nil]
 have := nameL_len k
 have := digL_19 n h
 omega
set_option maxRecDepth 100000 in
theorem kindR_any (s : ByteArray) (w : World) : Calls Tryz.prog 75 #[.string s] w (KindPost s w) := by
 have HNM := Lib.hid (fun (k : Int) w => rname_any k w)
 go_enter Tryz.func75, Tryz.ntmps75
 go_wp2
 go_loopw [4] (fun v wr => ∃ k : Nat, v = .int .i64 (k : Int) ∧ 1 ≤ k ∧ k ≤ 5 ∧ Below w.heap.size w wr ∧ ∀ j, 1 ≤ j → j < k → isName s j = false) (fun v _ => 5 - (intOf v).toNat)
 case atStart => exact ⟨1, rfl, by omega, by omega, Below.refl _ _, fun j h1 h2 => by omega⟩
 case round =>
  obtain ⟨k, rfl, hk1, hk, hB, hno⟩ := hrel
  have HN := Lib.hid hno
  have HB := Lib.hid hB
  clear hno hB
  by_cases hk5 : k < 5
  · have d0 : decide ((k : Int) ≤ 4) = true := decide_eq_true (by omega)
    cases hn : isName s k
    · have hn' : ((strOfNums (nameL (k : Int))).toList == s.toList) = false := hn
      have HS : Hid (∀ j, 1 ≤ j → j < k + 1 → isName s j = false) := Lib.hid (fun j h1 h2 => by
       by_cases hj : j = k
       · rw [hj]; exact hn
       · exact HN.out j h1 (by omega))
      clear hn
      go_wp2_with (refine (HNM.out (k : Int) wr).mono ?_; rintro e w1 ⟨rfl, hb1⟩)
      go_roundw
      case rel => exact ⟨k + 1, by go_num, by omega, by omega, HB.out.trans (hb1.mono HB.out.size), HS.out⟩
      case measure => simp [intOf]; omega
    · have hn' : ((strOfNums (nameL (k : Int))).toList == s.toList) = true := hn
      have HS := Lib.hid (kindN_at s k hk1 (by omega) HN.out hn)
      clear hn
      go_wp2_with (refine (HNM.out (k : Int) wr).mono ?_; rintro e w1 ⟨rfl, hb1⟩)
      go_ret2
      unfold KindPost
      rw [HS.out]
      exact ⟨by rw [decide_eq_true (show 0 < k by omega)]; rfl, HB.out.trans (hb1.mono HB.out.size)⟩
  · obtain rfl : k = 5 := by omega
    have d0 : decide (((5 : Nat) : Int) ≤ 4) = false := by decide
    have HS := Lib.hid (kindN_no s HN.out)
    go_wp2
    go_ret2
    unfold KindPost
    rw [HS.out]
    exact ⟨rfl, HB.out⟩
end Go.Proofs.YtihanglnjghcfaaGreatDoor
namespace Go.Proofs.YtihanglnjghcfaaGreatDoor
open Go.RowKit
set_option linter.unusedVariables false
set_option linter.unusedSimpArgs false

set_option maxRecDepth 100000 in
set_option maxHeartbeats 1000000 in
theorem digitsB_any (n0 : Nat) (w : World) (h0 : n0 ≤ 9223372036854775807) : Calls Tryz.prog 53 #[.int .i64 n0] w fun e w' => e = .returned (.string (strOfNums (digL n0))) ∧ Below w.heap.size w w' := by
 have hcv : ∀ (W : World) (d : Int), (convert 48 9 (.slice (some ⟨W.heap.size, 0, none⟩) 1 1)).run Tryz.prog (W.alloc (.cells #[.int .u8 d] 5)) = .ok (.string (strOfNums [d])) (W.alloc (.cells #[.int .u8 d] 5)) := fun W d =>
  run_str_ints (P := Tryz.prog) (w := W.alloc (.cells #[.int .u8 d] 5)) 48 9 5 Tryz.underlying48 Tryz.underlying5 Tryz.underlying9 (some ⟨W.heap.size, 0, none⟩) 1 [d] (fun _ => ⟨_, 0, rfl, by simp, fun j hj => by
   obtain rfl : j = 0 := by simpa using hj
   rw [cell_of_row _ _ _ _ _ _ (heap_alloc_new W _)]; rfl⟩)
 go_enter Tryz.func53, Tryz.ntmps53
 go_wp2
 go_loopw [0, 3] (fun vn vs wr => ∃ (n : Nat) (xs : List Int), vn = .int .i64 n ∧ vs = .string (strOfNums xs) ∧ digL n0 = digL n ++ xs ∧ xs.length + n ≤ n0 ∧ Below w.heap.size w wr) (fun vn _ _ => (intOf vn).toNat)
 case atStart => exact ⟨n0, [], rfl, rfl, by simp, by simp, Below.refl _ _⟩
 case round =>
  obtain ⟨n, xs, rfl, rfl, hd, hl, hB⟩ := hrel
  have hsz : (strOfNums xs).size = xs.length := strOfNums_size xs
  by_cases hn : 9 < n
  · have d1 : decide ((9 : Int) < (n : Int)) = true := decide_eq_true (by omega)
    have d1' : decide (9 < n) = true := decide_eq_true hn
    obtain ⟨q, hq⟩ : ∃ q : Nat, q = n / 10 := ⟨_, rfl⟩
    have r4 : IntKind.i64.wrap ((n : Int) / 10) = (q : Int) := by rw [IntWalk.i64_in _ (by omega)]; omega
    have HD : Hid (digL n0 = digL q ++ ((48 + (n : Int) % 10) :: xs)) := Lib.hid (by rw [hd, digL_big hn, hq, List.append_assoc]; rfl)
    have HB := Lib.hid hB
    have hcv' := hcv wr (48 + (n : Int) % 10)
    have HAPP := Lib.hid (str_app [48 + (n : Int) % 10] xs)
    have h1 : (strOfNums [48 + (n : Int) % 10]).size = 1 := strOfNums_size _
    have HLL : Hid (xs.length + 1 + q ≤ n0 ∧ q < n) := Lib.hid (by omega)
    have hxl : xs.length < 9223372036854775807 := by have e := congrArg List.length hd; rw [List.length_append] at e; have := digL_19 n0 (by omega); omega
    have hB2 : Below w.heap.size w (wr.alloc (.cells #[.int .u8 (48 + (n : Int) % 10)] 5)) := hB.trans (((Below.refl _ _).alloc (Nat.le_refl _) _).mono hB.size)
    have HB2 := Lib.hid hB2
    clear hd hB hcv hq hB2
    go_wp2
    go_roundw
    case rel => exact ⟨q, _, rfl, by rw [HAPP.out]; rfl, HD.out, by have := HLL.out; simp only [List.length_cons, List.length_append, List.length_nil]; omega, HB2.out⟩
    case measure => have := HLL.out; simp [intOf]; omega
  · have d1 : decide ((9 : Int) < (n : Int)) = false := decide_eq_false (by omega)
    have d1' : decide (9 < n) = false := decide_eq_false hn
    have r3 : IntKind.u8.wrap (n : Int) = (n : Int) := by rw [IntKind.wrap_u8']; omega
    have r5 : IntKind.u8.wrap (48 + (n : Int)) = 48 + (n : Int) := by rw [IntKind.wrap_u8']; omega
    have hcv' := hcv wr (48 + (n : Int))
    have HAPP := Lib.hid (str_app [48 + (n : Int)] xs)
    have h1 : (strOfNums [48 + (n : Int)]).size = 1 := strOfNums_size _
    have HD : Hid (digL n0 = [48 + (n : Int)] ++ xs) := Lib.hid (by rw [hd, digL_small (by omega)])
    have hxl : xs.length < 9223372036854775807 := by have e := congrArg List.length hd; rw [List.length_append] at e; have := digL_19 n0 (by omega); omega
    have HB2 : Hid (Below w.heap.size w (wr.alloc (.cells #[.int .u8 (48 + (n : Int))] 5))) := Lib.hid (hB.trans (((Below.refl _ _).alloc (Nat.le_refl _) _).mono hB.size))
    clear hd hB hcv
    go_wp2
    go_ret
    exact ⟨by rw [HAPP.out, HD.out]; rfl, HB2.out⟩
set_option maxRecDepth 100000 in
set_option maxHeartbeats 1000000 in
theorem headerN_any (k : Int) (n : Nat) (w : World) (hn : n ≤ 9223372036854775807) : Calls Tryz.prog 58 #[.int .i64 k, .int .i64 n] w fun e w' => e = .returned (.string (strOfNums (headL k n))) ∧ Below w.heap.size w w' := by
 have HNM := Lib.hid (fun w => rname_any k w)
 have HDG := Lib.hid (fun w => digitsB_any n w (by omega))
 have z1 : (strOfNums (nameL k)).size ≤ 6 := by rw [strOfNums_size]; exact nameL_len k
 have z2 : (strOfNums (digL n)).size ≤ 19 := by rw [strOfNums_size]; exact digL_19 n (by omega)
 have HR : Hid (strOfNums (nameL k) ++ ⟨#[32]⟩ ++ strOfNums (digL n) ++ ⟨#[0]⟩ = strOfNums (headL k n)) := Lib.hid (by
  unfold headL
  rw [← str_app, ← str_app, ← str_app]; rfl)
 have z3 : (strOfNums (nameL k) ++ (⟨#[32]⟩ : ByteArray)).size = (strOfNums (nameL k)).size + 1 := by rw [ByteArray.size_append]; rfl
 have z4 : (strOfNums (nameL k) ++ (⟨#[32]⟩ : ByteArray) ++ strOfNums (digL n)).size = (strOfNums (nameL k)).size + 1 + (strOfNums (digL n)).size := by rw [ByteArray.size_append, z3]
 have m0 : ¬ ((n : Int) < 0) := by omega
 generalize strOfNums (nameL k) = S1 at *
 generalize strOfNums (digL n) = S2 at *
 go_enter Tryz.func58, Tryz.ntmps58
 go_wp2_with fail
 refine (HNM.out w).mono ?_
 rintro e w1 ⟨rfl, hb1⟩
 have HB1 := Lib.hid hb1
 clear hb1
 go_wp2_with fail
 refine (HDG.out w1).mono ?_
 rintro e w2 ⟨rfl, hb2⟩
 have HB2 := Lib.hid hb2
 clear hb2
 go_wp2
 go_ret
 exact ⟨by rw [← HR.out]; rfl, HB1.out.trans (HB2.out.mono HB1.out.size)⟩
set_option maxRecDepth 100000 in
set_option maxHeartbeats 1000000 in
theorem ridB_any (k : Int) (s : ByteArray) (w : World) (hs : s.size ≤ 140737488351232) : Calls Tryz.prog 34 #[.int .i64 k, .string s] w fun e w' => e = .returned (.string (strOfNums (hexL (shaAll (headL k s.size ++ bytesOf s))))) ∧ Below w.heap.size w w' := by
 have hhl : (headL k s.size).length ≤ 27 := by
  exact headL_19 k s.size (by omega)
 have hml : (headL k s.size ++ bytesOf s).length ≤ 140737488351300 := by rw [List.length_append, bytesOf_len]; omega
 have hmb : Bytes (headL k s.size ++ bytesOf s) := fun x hx => by
  rcases List.mem_append.1 hx with h | h
  · exact headL_ok _ _ x h
  · exact bytesOf_ok s x h
 have HH := Lib.hid (fun w => headerN_any k s.size w (by omega))
 have HS := Lib.hid (fun w => oidSum_any (headL k s.size ++ bytesOf s) w hmb hml)
 have HX := Lib.hid (fun w A c hI => hexR_any A 20 c (shaAll (headL k s.size ++ bytesOf s)) w hI (oid_sha_len _) (oid_sha_bytes _) (by decide))
 have z1 : (strOfNums (headL k s.size)).size ≤ 27 := by rw [strOfNums_size]; exact hhl
 have HC : Hid (strOfNums (headL k s.size) ++ s = strOfNums (headL k s.size ++ bytesOf s)) := Lib.hid (by rw [← str_app, strOfNums_bytes])
 generalize strOfNums (headL k s.size) = S1 at *
 clear hhl hml hmb
 go_enter Tryz.func34, Tryz.ntmps34
 go_wp2_with fail
 refine (HH.out w).mono ?_
 rintro e w1 ⟨rfl, hb1⟩
 have HB1 := Lib.hid hb1
 clear hb1
 have HSS := Lib.hid (HS.out w1)
 rw [← HC.out] at HSS
 obtain ⟨S2, hS2⟩ : ∃ S2, S1 ++ s = S2 := ⟨_, rfl⟩
 rw [hS2] at HSS
 go_wp2_with fail
 refine HSS.out.mono ?_
 rintro e w2 ⟨A2, c2, rfl, ho2, hb2⟩
 have HXX := Lib.hid (HX.out w2 A2 c2 ho2.ints)
 rw [oid_sha_len]
 have HB2 := Lib.hid hb2
 clear ho2 hb2 hS2
 go_wp2_with fail
 refine HXX.out.mono ?_
 rintro e w3 ⟨rfl, hb3⟩
 have HB3 := Lib.hid hb3
 clear hb3
 go_wp2
 go_ret
 exact ⟨rfl, HB1.out.trans ((HB2.out.trans (HB3.out.mono HB2.out.size)).mono HB1.out.size)⟩
end Go.Proofs.YtihanglnjghcfaaGreatDoor
namespace Go.Proofs.YtihanglnjghcfaaGreatDoor
open Go.RowKit
set_option linter.unusedVariables false
set_option linter.unusedSimpArgs false

/-- Is a text a hash? -/
def hashB (l : List Int) : Bool := unOk l && decide ((unV l).length = 20)
set_option maxRecDepth 100000 in
theorem hash_any (s : ByteArray) (w : World) (hsz : s.size ≤ 140737488355328) : Calls Tryz.prog 110 #[.string s] w fun e w' => e = .returned (.bool (hashB (bytesOf s))) ∧ Below w.heap.size w w' := by
 have HU := Lib.hid (unhex_any s w hsz)
 go_enter Tryz.func110, Tryz.ntmps110
 go_wp2_with fail
 refine HU.out.mono ?_
 rintro e w1 ⟨A, c, rfl, hI, hb⟩
 have HB := Lib.hid hb
 have HH : Hid (hashB (bytesOf s) = (unOk (bytesOf s) && decide ((unV (bytesOf s)).length = 20))) := rfl
 generalize unV (bytesOf s) = V at *
 clear hI hb HU
 cases ho : unOk (bytesOf s)
 · rw [ho] at HH
   clear ho
   go_wp2
   go_ret
   exact ⟨by rw [HH.out]; rfl, HB.out⟩
 · rw [ho] at HH
   clear ho
   by_cases h : V.length = 20
   · have d1 : ((V.length : Int) == 20) = true := by rw [beq_iff_eq]; omega
     rw [decide_eq_true h] at HH
     clear h
     go_wp2
     go_ret
     exact ⟨by rw [HH.out]; rfl, HB.out⟩
   · have d1 : ((V.length : Int) == 20) = false := by rw [beq_eq_false_iff_ne]; omega
     rw [decide_eq_false h] at HH
     clear h
     go_wp2
     go_ret
     exact ⟨by rw [HH.out]; rfl, HB.out⟩
set_option maxRecDepth 100000 in
theorem hashR_any (s : ByteArray) (w : World) (hsz : s.size ≤ 140737488355328) : Calls Tryz.prog 72 #[.string s] w fun e w' => e = .returned (.bool (hashB (bytesOf s))) ∧ Below w.heap.size w w' := by
 have HU := Lib.hid (unhexR_any s w hsz)
 go_enter Tryz.func72, Tryz.ntmps72
 go_wp2_with fail
 refine HU.out.mono ?_
 rintro e w1 ⟨A, c, rfl, hI, hb⟩
 have HB := Lib.hid hb
 have HH : Hid (hashB (bytesOf s) = (unOk (bytesOf s) && decide ((unV (bytesOf s)).length = 20))) := rfl
 generalize unV (bytesOf s) = V at *
 clear hI hb HU
 cases ho : unOk (bytesOf s)
 · rw [ho] at HH
   clear ho
   go_wp2
   go_ret
   exact ⟨by rw [HH.out]; rfl, HB.out⟩
 · rw [ho] at HH
   clear ho
   by_cases h : V.length = 20
   · have d1 : ((V.length : Int) == 20) = true := by rw [beq_iff_eq]; omega
     rw [decide_eq_true h] at HH
     clear h
     go_wp2
     go_ret
     exact ⟨by rw [HH.out]; rfl, HB.out⟩
   · have d1 : ((V.length : Int) == 20) = false := by rw [beq_eq_false_iff_ne]; omega
     rw [decide_eq_false h] at HH
     clear h
     go_wp2
     go_ret
     exact ⟨by rw [HH.out]; rfl, HB.out⟩
end Go.Proofs.YtihanglnjghcfaaGreatDoor
namespace Go.Proofs.YtihanglnjghcfaaGreatDoor
open Go.RowKit
set_option linter.unusedVariables false
set_option linter.unusedSimpArgs false

theorem OwnS.clip {w : World} {base : Nat} {e : TypeId} {A : Option Addr} {n c : Nat} {xs : List Value} (h : OwnS w base e 1 (.slice A n c) n xs) : OwnS w base e 1 (.slice A n n) n xs := by
 refine ⟨h.1, ?_⟩
 rcases h.2 with ⟨hv, rfl⟩ | ⟨g, off, cap, cur, hv, hb, hg, hn, hm, hs, ht⟩
 · injection hv with hA _ hc
   subst hA
   exact .inl ⟨rfl, rfl⟩
 · injection hv with hA _ hc
   subst hA; subst hc
   exact .inr ⟨g, off, n, cur, rfl, hb, hg, Nat.le_refl _, by omega, by omega, ht⟩
set_option maxRecDepth 100000 in
theorem clip_any (A : Option Addr) (n c : Nat) (w : World) (hn : n ≤ c) (hc : c ≤ 9223372036854775807) :
 Calls Tryz.prog 82 #[.slice A n c] w fun e w' => e = .returned (.slice A n n) ∧ w = w' := by
 have h0 : (n : Int) ≤ c := by omega
 go_enter Tryz.func82, Tryz.ntmps82
 go_wp2
 go_ret
 exact ⟨rfl, rfl⟩
set_option maxRecDepth 100000 in
theorem clone_any (A : Option Addr) (n c : Nat) (xs : List Int) (w : World) (hI : Ints .u8 w A xs) (hn : xs.length = n) (hsz : n ≤ 140737488355000) (hA : A = none → n = 0) :
 Calls Tryz.prog 83 #[.slice A n c] w fun e w' => ∃ A' c', e = .returned (.slice A' n c') ∧ OwnS w' w.heap.size 5 1 (.slice A' n c') n (xs.map (Value.int .u8)) ∧ Below w.heap.size w w' := by
 subst hn
 obtain ⟨i0, hi, hz0, hz1, hz2⟩ := info_parts Tryz.info_u8
 have he := fun (W : World) (a : Option Addr) => Lib.run_eql_slice_nil (P := Tryz.prog) W 48 5 a xs.length c 0 0 Tryz.underlying48
 cases A with
 | none =>
  have h0 := hA rfl
  have hx : xs = [] := List.eq_nil_of_length_eq_zero h0
  subst hx
  have he0 := fun (W : World) => Lib.run_eql_slice_nil (P := Tryz.prog) W 48 5 none 0 c 0 0 Tryz.underlying48
  clear he
  show Calls Tryz.prog 83 #[.slice none 0 c] w _
  go_enter Tryz.func83, Tryz.ntmps83
  go_wp2
  go_ret
  exact ⟨none, 0, rfl, OwnS.nil _ _ _ _, Below.refl _ _⟩
 | some a =>
  go_enter Tryz.func83, Tryz.ntmps83
  go_wp2_with (at_builtin; go_loud (refine wpList_append_S rfl (.tmp 5) (.tmp 6) 48 48 rfl i0 (.int .u8 0) 1 (.slice 5) Tryz.underlying48 Tryz.underlying48 (fun _ h => by cases h) hi hz0 hz1 hz2 rfl rfl rfl (OwnS.empty (base := w.heap.size) (c := 0) (Nat.le_refl _) (heap_alloc_new w _) (by decide) (by simp)) (Src.ints (hI.below ((Below.refl _ _).alloc (Nat.le_refl _) _))) ?_ ?_ ?_ ?_; (unfold maxLen; omega); omega; (simp); intro A5 c5 w5 ho5 hg5 hw5))
  rw [Nat.zero_add, List.nil_append] at ho5
  go_ret
  exact ⟨A5, c5, rfl, ho5, ((Below.refl _ _).alloc (Nat.le_refl _) _).grown hg5 (by simp) (fun k h => by injection h with h; exact Nat.le_of_eq h)⟩

theorem OwnS.capm {w : World} {base : Nat} {e : TypeId} {size n c : Nat} {A : Option Addr} {xs : List Value} (h : OwnS w base e size (.slice A n c) n xs) : c ≤ 9223372036854775807 := by
 rcases h.2 with ⟨hv, rfl⟩ | ⟨g', off, cap, cur, hv, _, _, hn, hm, _⟩
 · injection hv with _ _ hc; omega
 · injection hv with _ _ hc
   unfold maxLen at hm
   omega
/-- Twenty bytes of an ID; noughts if it is none. -/
def rawL (s : ByteArray) : List Int := if hashB (bytesOf s) then unV (bytesOf s) else List.replicate 20 0
theorem rawL_len (s : ByteArray) : (rawL s).length = 20 := by
 unfold rawL
 split
 · next h => unfold hashB at h; simp at h; exact h.2
 · simp
def zeroS : ByteArray := ⟨#[48, 48, 48, 48, 48, 48, 48, 48, 48, 48, 48, 48, 48, 48, 48, 48, 48, 48, 48, 48, 48, 48, 48, 48, 48, 48, 48, 48, 48, 48, 48, 48, 48, 48, 48, 48, 48, 48, 48, 48]⟩
theorem zero_un : unV (bytesOf zeroS) = List.replicate 20 0 := by kernel_rfl
theorem zeroR_any (w : World) : Calls Tryz.prog 69 #[] w fun e w' => e = .returned (.string zeroS) ∧ w = w' := by
 go_enter Tryz.func69, Tryz.ntmps69
 go_wp2
 go_ret
 exact ⟨rfl, rfl⟩
/-- A string made into bytes of one's own. -/
theorem run_convO (w : World) (s : ByteArray) (hsz : s.size ≤ 140737488351300) : ∃ A cap w', (convert 9 48 (.string s)).run Tryz.prog w = .ok (.slice A s.size cap) w' ∧ OwnS w' w.heap.size 5 1 (.slice A s.size cap) s.size ((bytesOf s).map (Value.int .u8)) ∧ s.size ≤ cap ∧ cap ≤ 9223372036854775807 ∧ Below w.heap.size w w' := by
 have hge := grownCap_ge w s.size 0 5
 have hcm : grownCap w s.size 0 5 ≤ maxLen := grownCap_le_maxLen w s.size 0 5 (by unfold maxLen; omega)
 have ho := OwnS.of_str w.drew s 5 _ hge hcm
 refine ⟨_, _, _, run_bytes_of_string (P := Tryz.prog) w 9 48 5 s Tryz.underlying9 Tryz.underlying48 Tryz.underlying5, ho, hge, by unfold maxLen at hcm; omega, ((Below.refl _ _).drew).alloc (by simp) _⟩
theorem wpList_convO {ops : Array Oper} {rest : List Oper} {o : Oper} {a : Act} {Q : Exit → Act → World → Prop} {w : World} (hgd : o.guard = none) (y : Operand) (ho : o.op = .convert 9 48 y) (s : ByteArray) (n : Nat) (L : List Int) (hy : a.eval y = .string s) (hn : s.size = n) (hL : bytesOf s = L) (hsz : s.size ≤ 140737488351300)
 (h : ∀ A cap w', OwnS w' w.heap.size 5 1 (.slice A n cap) n (L.map (Value.int .u8)) → n ≤ cap → cap ≤ 9223372036854775807 → Below w.heap.size w w' → wpList Tryz.prog ops Q rest (a.put o.dst (.slice A n cap)) w') : wpList Tryz.prog ops Q (o :: rest) a w :=
 wpList_plain hgd fun _ hK => by
  subst hn; subst hL
  obtain ⟨A, cap, w', hr, h1, h2, h3, h4⟩ := run_convO w s hsz
  unfold Oper.wp execOp
  simp only [ho, hy, Sem.run_bind, hr, Result.andThen_ok, Sem.run_pure]
  exact hK _ _ (h A cap w' h1 h2 h3 h4)
end Go.Proofs.YtihanglnjghcfaaGreatDoor
namespace Go.Proofs.YtihanglnjghcfaaGreatDoor
open Go.RowKit

/-- The act behind values us for the operations l, of which the first has the number k. -/
def putAll (us : Nat → Value) : List Oper → Nat → Act → Act
 | [], _, a => a
 | o :: l, k, a => putAll us l (k + 1) (a.put o.dst (us k))
def upd (us : Nat → Value) (i : Nat) (v : Value) : Nat → Value := fun j => if j = i then v else us j

theorem put_put (a : Act) (d : Option Tmp) (u v : Value) : (a.put d u).put d v = a.put d v := by
 cases d with
 | none => rfl
 | some t => simp [Act.put]
theorem putAll_put_far (us : Nat → Value) : ∀ (l : List Oper) (k : Nat) (a : Act) (d : Option Tmp) (v : Value), (∀ o ∈ l, ∀ t, d = some t → o.dst ≠ some t) → (putAll us l k a).put d v = putAll us l k (a.put d v)
 | [], _, _, _, _, _ => rfl
 | o :: l, k, a, d, v, h => by
  rw [putAll, putAll, putAll_put_far us l (k + 1) _ d v (fun o' h' => h o' (by simp [h']))]
  congr 1
  cases d with
  | none => rfl
  | some t => exact (Act.put_comm a v (us k) (fun t' ht' e => h o (by simp) t' ht' e)).symm
theorem putAll_far (us us' : Nat → Value) : ∀ (l : List Oper) (k : Nat) (a : Act), (∀ j, k ≤ j → us j = us' j) → putAll us l k a = putAll us' l k a
 | [], _, _, _ => rfl
 | o :: l, k, a, h => by rw [putAll, putAll, h k (Nat.le_refl _), putAll_far us us' l (k + 1) _ (fun j hj => h j (by omega))]
def distinct : List Oper → Bool
 | [] => true
 | o :: l => (match o.dst with | some t => l.all (fun o' => o'.dst != some t) | none => true) && distinct l
theorem putAll_put (us : Nat → Value) : ∀ (l : List Oper) (k : Nat) (a : Act) (i : Nat) (o : Oper) (v : Value), distinct l = true → l[i]? = some o → (putAll us l k a).put o.dst v = putAll (upd us (k + i) v) l k a
 | [], _, _, _, _, _, _, h => by simp at h
 | o' :: l, k, a, i, o, v, hd, h => by
  rw [distinct, Bool.and_eq_true] at hd
  cases i with
  | zero =>
   simp at h
   subst h
   rw [putAll, putAll]
   rw [putAll_put_far us l (k + 1) _ o'.dst v (fun o'' ho'' t ht e => by
    have := hd.1
    rw [ht] at this
    simp only [List.all_eq_true] at this
    have := this o'' ho''
    simp [e] at this)]
   rw [put_put]
   rw [show upd us (k + 0) v k = v by simp [upd]]
   exact putAll_far _ _ l (k + 1) _ (fun j hj => by unfold upd; rw [if_neg (by omega)])
  | succ i =>
   simp at h
   rw [putAll, putAll]
   rw [show upd us (k + (i + 1)) v k = us k by unfold upd; rw [if_neg (by omega)]]
   rw [putAll_put us l (k + 1) (a.put o'.dst (us k)) i o v hd.2 h]
   congr 2
   omega
theorem putAll_id (us : Nat → Value) : ∀ (l : List Oper) (k : Nat) (a : Act), (∀ i o, l[i]? = some o → a.put o.dst (us (k + i)) = a) → putAll us l k a = a
 | [], _, _, _ => rfl
 | o :: l, k, a, h => by
  have h0 := h 0 o rfl
  rw [Nat.add_zero] at h0
  rw [putAll, h0]
  exact putAll_id us l (k + 1) a (fun i o' h' => by
   have := h (i + 1) o' (by simpa using h')
   rwa [show k + (i + 1) = k + 1 + i by omega] at this)
def startV (l : List Oper) (a : Act) (i : Nat) : Value := match (l[i]?).bind (·.dst) with | some t => a.tmps.getD t undef | none => undef
theorem put_same (a : Act) (t : Tmp) : a.put (some t) (a.tmps.getD t undef) = a := by
 obtain ⟨ts, ds⟩ := a
 have e : ts.setIfInBounds t (ts.getD t undef) = ts := by
  apply Array.ext_getElem?
  intro i
  by_cases hi : i = t
  · subst hi
    by_cases hs : i < ts.size
    · simp [hs]
    · simp [hs]
  · rw [Array.getElem?_setIfInBounds_ne (Ne.symm hi)]
 show (⟨ts.setIfInBounds t (ts.getD t undef), ds⟩ : Act) = ⟨ts, ds⟩
 rw [e]
theorem putAll_start (l : List Oper) (a : Act) : putAll (startV l a) l 0 a = a :=
 putAll_id _ l 0 a (fun i o h => by
  rw [Nat.zero_add]
  unfold startV
  rw [h]
  cases hd : o.dst with
  | none => rfl
  | some t => simp only [Option.bind_some, hd]; exact put_same a t)

/-- Does the operation wait for number j? -/
def depB (o : Oper) (j : Nat) : Bool := o.after.any fun e => Region.binds .any e && e.on == j
def edgesDown (l : List Oper) : Bool := (List.range l.length).all fun i => match l[i]? with | some o => o.after.all (fun e => !Region.binds .any e || decide (e.on < i)) | none => true
def unl (n : Nat) (listed : Array Bool) : Nat := ((List.range n).filter fun i => !listed.getD i true).length

section
variable {P : Program} {ops : Array Oper} {Q : Exit → Act → World → Prop}
theorem unl_set (n i : Nat) (listed : Array Bool) (hi : i < n) (h0 : listed.getD i true = false) : unl n (listed.setIfInBounds i true) < unl n listed := by
 have hs : i < listed.size := by
  rcases Nat.lt_or_ge i listed.size with h | h
  · exact h
  · rw [Array.getD_eq_getD_getElem?, Array.getElem?_eq_none h] at h0; cases h0
 unfold unl
 have key : ∀ (l : List Nat), (l.filter fun j => !(listed.setIfInBounds i true).getD j true).length + (if i ∈ l then 1 else 0) ≤ (l.filter fun j => !listed.getD j true).length := by
  intro l
  induction l with
  | nil => simp
  | cons j l ih =>
   rw [List.filter_cons, List.filter_cons]
   by_cases hji : j = i
   · subst hji
     have e1 : (listed.setIfInBounds j true).getD j true = true := by
      rw [Array.getD_eq_getD_getElem?]; simp [hs]
     rw [e1, h0, if_pos (List.mem_cons_self ..)]
     simp only [Bool.not_true, Bool.not_false, Bool.false_eq_true, if_false, if_true, List.length_cons]
     by_cases hl : j ∈ l
     · rw [if_pos hl] at ih; omega
     · rw [if_neg hl] at ih; omega
   · have e1 : (listed.setIfInBounds i true).getD j true = listed.getD j true := by
      rw [Array.getD_eq_getD_getElem?, Array.getD_eq_getD_getElem?, Array.getElem?_setIfInBounds_ne (Ne.symm hji)]
     rw [e1]
     have hm : (i ∈ j :: l) ↔ i ∈ l := by simp [Ne.symm hji]
     by_cases hl : i ∈ l
     · rw [if_pos hl] at ih
       rw [if_pos (hm.2 hl)]
       cases listed.getD j true
       · simp only [Bool.not_false, if_true, List.length_cons]; omega
       · simp only [Bool.not_true, Bool.false_eq_true, if_false]; omega
     · rw [if_neg hl] at ih
       rw [if_neg (fun h => hl (hm.1 h))]
       cases listed.getD j true
       · simp only [Bool.not_false, if_true, List.length_cons]; omega
       · simp only [Bool.not_true, Bool.false_eq_true, if_false]; omega
 have := key (List.range n)
 rw [if_pos (List.mem_range.2 hi)] at this
 omega
theorem all_listed (hE : edgesDown ops.toList = true) (listed : Array Bool) (h : Region.ready .any ops listed = []) : ∀ i, i < ops.size → listed.getD i true = true := by
 intro i
 induction i using Nat.strongRecOn with
 | ind i ih =>
  intro hi
  cases hc : listed.getD i true with
  | true => rfl
  | false =>
   exfalso
   have ho : ops[i]? = some ops[i] := Array.getElem?_eq_getElem hi
   have hm : i ∈ Region.ready .any ops listed := mem_ready.2 ⟨hc, ops[i], ho, fun e he hb => by
    unfold edgesDown at hE
    have h1 := List.all_eq_true.1 hE i (List.mem_range.2 (by simpa using hi))
    rw [Array.getElem?_toList, ho] at h1
    simp only at h1
    rw [Array.all_eq_true'] at h1
    have h2 := h1 e he
    rw [hb] at h2
    simp at h2
    have h3 := ih e.on h2 (by omega)
    have hsz : e.on < listed.size := by
     rcases Nat.lt_or_ge i listed.size with h' | h'
     · omega
     · rw [Array.getD_eq_getD_getElem?, Array.getElem?_eq_none h'] at hc; cases hc
    rw [Array.getD_eq_getD_getElem?, Array.getElem?_eq_getElem hsz] at h3 ⊢
    exact h3⟩
   rw [h] at hm
   cases hm

/-- One operation, whatever follows: it leaves a value of which p holds, in a world reached by Rel. -/
def StepR (P : Program) (ops : Array Oper) (Q : Exit → Act → World → Prop) (Rel : World → World → Prop) (p : Value → World → Prop) (i : Nat) (o : Oper) (a : Act) (w : World) : Prop :=
 ∀ K : Act → World → Prop, (∀ v w', Rel w w' → p v w' → K (a.put o.dst v) w') → wpOp P ops Q i K a w

/-- Nothing old has changed. -/
def RelB (x y : World) : Prop := Below x.heap.size x y
theorem RelB.refl (x : World) : RelB x x := Below.refl _ _
theorem RelB.trans {x y z : World} (h : RelB x y) (k : RelB y z) : RelB x z := Below.trans h (Below.mono k h.size)
def MonoB (p : Value → World → Prop) : Prop := ∀ v w w', p v w → RelB w w' → p v w'
theorem MonoB.eq (c : Value) : MonoB (fun v _ => v = c) := fun _ _ _ h _ => h
theorem MonoB.pure (q : Value → Prop) : MonoB (fun v _ => q v) := fun _ _ _ h _ => h
theorem MonoB.ints (k : IntKind) (n : Nat) (xs : List Int) : MonoB (fun v w => ∃ A c, v = .slice A n c ∧ Ints k w A xs) := fun _ _ _ ⟨A, c, h1, h2⟩ hR => ⟨A, c, h1, h2.below hR⟩
def StepsR (P : Program) (ops : Array Oper) (Q : Exit → Act → World → Prop) (Vs : List (Value → World → Prop)) (a0 : Act) (w0 : World) : List Oper → Nat → Prop
 | [], _ => True
 | o :: l, i => (∀ (us : Nat → Value) a w, a = putAll us ops.toList 0 a0 → RelB w0 w → (∀ (j : Nat) p, depB o j = true → Vs[j]? = some p → p (us j) w) → StepR P ops Q RelB (Vs.getD i (fun _ _ => True)) i o a w) ∧ StepsR P ops Q Vs a0 w0 l (i + 1)
theorem StepsR.at_ {Vs : List (Value → World → Prop)} {a0 : Act} {w0 : World} : ∀ (l : List Oper) (k : Nat), StepsR P ops Q Vs a0 w0 l k → ∀ i o, l[i]? = some o →
 ∀ (us : Nat → Value) w, RelB w0 w → (∀ (j : Nat) p, depB o j = true → Vs[j]? = some p → p (us j) w) → StepR P ops Q RelB (Vs.getD (k + i) (fun _ _ => True)) (k + i) o (putAll us ops.toList 0 a0) w
 | [], _, _, _, _, h => by simp at h
 | o' :: l, k, hs, i, o, h => by
  cases i with
  | zero => simp at h; subst h; exact fun us w hR hd => hs.1 us _ w rfl hR hd
  | succ i =>
   simp at h
   have := StepsR.at_ l (k + 1) hs.2 i o h
   rwa [show k + 1 + i = k + (i + 1) by omega] at this
theorem wanted_guard {o : Oper} {tm : Array Value} {g t : Nat} {b : Bool} {v : Value} (hg : o.guard = some (g, b)) (hd : (ops[g]?).bind (·.dst) = some t) (ht : tm[t]? = some v) (hv : v = .bool b) : Region.wanted o (yielded ops tm) = true := by
 subst hv
 simp [Region.wanted, yielded, hg, hd, ht]
theorem StepR.pure {Rel : World → World → Prop} {p : Value → World → Prop} {i : Nat} {o : Oper} {a : Act} {w : World} {v : Value} (ho : ops[i]? = some o) (hg : Region.wanted o (yielded ops a.tmps) = true)
 (he : (execOp a.eval o).run P w = .ok (.value v) w) (hR : Rel w w) (hp : p v w) : StepR P ops Q Rel p i o a w := fun K hK => by
 unfold wpOp
 simp only [ho, hg, if_true]
 exact .inl (by unfold Oper.wp; rw [he]; exact hK v w hR hp)
theorem StepR.call {Rel : World → World → Prop} {p : Value → World → Prop} {i : Nat} {o : Oper} {a : Act} {w : World} {f : FuncId} {args : Array Value} (ho : ops[i]? = some o) (hg : Region.wanted o (yielded ops a.tmps) = true)
 (he : (execOp a.eval o).run P w = .ok (.enter f args) w) (hc : Calls P f args w fun e w' => ∃ v, e = .returned v ∧ Rel w w' ∧ p v w') : StepR P ops Q Rel p i o a w := fun K hK => by
 unfold wpOp
 simp only [ho, hg, if_true]
 refine .inl ?_
 unfold Oper.wp
 rw [he]
 exact Calls.mono hc (fun e w' ⟨v, h1, h2, h3⟩ => by subst h1; exact hK v w' h2 h3)
end
end Go.Proofs.YtihanglnjghcfaaGreatDoor
