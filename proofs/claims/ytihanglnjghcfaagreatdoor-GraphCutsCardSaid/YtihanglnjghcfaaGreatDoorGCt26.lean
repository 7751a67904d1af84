/- What is cut away: a text looked up in a sorted list; DeleteFunc of what is there. -/
import Derived.Test.YtihanglnjghcfaaGreatDoorGCt25
import Derived.Test.YtihanglnjghcfaaGreatDoorGCt12
import Derived.Test.YtihanglnjghcfaaGreatDoorGCt14
import Derived.Test.YtihanglnjghcfaaGreatDoorGCt23
import Derived.Test.YtihanglnjghcfaaGreatDoorGCt24
import Derived.Test.YtihanglnjghcfaaGreatDoorGCt22
import Derived.Test.YtihanglnjghcfaaGreatDoorGCt3
import Derived.Lib.SmallJoins
import Derived.Deep.Slices
import Derived.Deep.Fields
import Derived.ChangeSame
import Derived.Test.YtihanglnjghcfaaGreatDoorGCt11
import Derived.Test.YtihanglnjghcfaaGreatDoorGCt19
namespace Go.Proofs.YtihanglnjghcfaaGreatDoor
open Go.RowKit Go.Maps Go.Sort
set_option linter.unusedVariables false
set_option linter.unusedSimpArgs false

def bsX (hv : List Gid) (d : Gid) : Nat → ByteArray := fun t => match hv[t]? with | some x => bk x | none => bk d
theorem bs_in {hv : List Gid} (hr : Rise hv) (d : Gid) {n : Nat} (hn : hv.length = n) :
 (Lib.bsGo (fun t => Op.bytesLess (bsX hv d t).toList (bk d).toList) n 0 n < n ∧ bsX hv d (Lib.bsGo (fun t => Op.bytesLess (bsX hv d t).toList (bk d).toList) n 0 n) = bk d) ↔ d ∈ hv := by
 have hk : hv.findIdx (fun x => !bytesBefore x d) ≤ n := by rw [← hn]; exact List.findIdx_le_length
 have hless : ∀ t x, hv[t]? = some x → Op.bytesLess (bsX hv d t).toList (bk d).toList = bytesBefore x d := fun t x h => by unfold bsX; rw [h]; exact less_bk x d
 have hir : bytesBefore d d = false := by
  cases h : bytesBefore d d with
  | false => rfl
  | true => exact absurd ((before_lt d d).1 h) (List.lt_irrefl d)
 have h1 : ∀ t, t < hv.findIdx (fun x => !bytesBefore x d) → Op.bytesLess (bsX hv d t).toList (bk d).toList = true := fun t ht => by
  have htl : t < hv.length := by omega
  rw [hless t hv[t] (List.getElem?_eq_getElem htl)]
  have := List.not_of_lt_findIdx ht
  simpa using this
 have h2 : ∀ t, hv.findIdx (fun x => !bytesBefore x d) ≤ t → Op.bytesLess (bsX hv d t).toList (bk d).toList = false := fun t ht => by
  rcases Nat.lt_or_ge t hv.length with htl | htl
  · rw [hless t hv[t] (List.getElem?_eq_getElem htl)]
    have hkl : hv.findIdx (fun x => !bytesBefore x d) < hv.length := by omega
    have hp : bytesBefore hv[hv.findIdx (fun x => !bytesBefore x d)] d = false := by
     have := List.findIdx_getElem (w := hkl)
     simpa using this
    cases hb : bytesBefore hv[t] d with
    | false => rfl
    | true =>
     exfalso
     rcases Nat.lt_or_ge (hv.findIdx (fun x => !bytesBefore x d)) t with h | h
     · have h3 := List.pairwise_iff_getElem.1 hr _ t hkl htl h
       have h4 := (before_lt _ _).2 (List.lt_trans ((before_lt _ _).1 h3) ((before_lt _ _).1 hb))
       rw [hp] at h4; cases h4
     · have e : hv.findIdx (fun x => !bytesBefore x d) = t := by omega
       have h5 : hv[hv.findIdx (fun x => !bytesBefore x d)] = hv[t] := by congr 1
       rw [h5, hb] at hp; cases hp
  · have : bsX hv d t = bk d := by unfold bsX; rw [List.getElem?_eq_none htl]
    rw [this, less_bk, hir]
 rw [Lib.bsGo_spec _ _ h1 h2 n 0 n (by omega) (Nat.zero_le _) hk]
 constructor
 · rintro ⟨ha, hb⟩
   have hkl : hv.findIdx (fun x => !bytesBefore x d) < hv.length := by omega
   unfold bsX at hb
   rw [List.getElem?_eq_getElem hkl] at hb
   rw [← bk_inj.1 hb]
   exact List.getElem_mem hkl
 · intro hd
   obtain ⟨j, hj, e⟩ := List.mem_iff_getElem.1 hd
   have hkj : hv.findIdx (fun x => !bytesBefore x d) ≤ j := by
    refine Nat.le_of_not_lt fun h => ?_
    have := List.not_of_lt_findIdx h
    rw [e] at this
    simp [hir] at this
   have hkl : hv.findIdx (fun x => !bytesBefore x d) < hv.length := by omega
   have hp : bytesBefore hv[hv.findIdx (fun x => !bytesBefore x d)] d = false := by
    have := List.findIdx_getElem (w := hkl)
    simpa using this
   have e2 : hv.findIdx (fun x => !bytesBefore x d) = j := by
    rcases Nat.lt_or_ge (hv.findIdx (fun x => !bytesBefore x d)) j with h | h
    · have h3 := List.pairwise_iff_getElem.1 hr _ j hkl hj h
      rw [e, hp] at h3; cases h3
    · omega
   refine ⟨by omega, ?_⟩
   unfold bsX
   rw [e2, List.getElem?_eq_getElem hj, e]
set_option maxRecDepth 100000 in
/-- slices.BinarySearch of texts. -/
theorem bsearch_any (A : Option Addr) (n c : Nat) (hv : List Gid) (d : Gid) (w : World) (hr : Rise hv) (hS : StrsAt w A (hv.map bk)) (hn : hv.length = n) (hb : n ≤ 268435456) :
 Calls Tryz.prog 46 #[.slice A n c, .string (bk d)] w fun e w' => ∃ i : Nat, e = .returned (.tuple #[.int .i64 (i : Int), .bool (decide (d ∈ hv))]) ∧ ∃ q, w' = w.drewN q := by
 by_cases h0 : n = 0
 · subst h0
   have he : hv = [] := List.length_eq_zero_iff.1 hn
   refine (Any2.slices_BinarySearch_string_empty Tryz.laysBs A c (bk d) w).mono ?_
   rintro e w' ⟨rfl, rfl⟩
   exact ⟨0, by subst he; rfl, 0, by rfl⟩
 · obtain ⟨b, o, rfl, _, hc⟩ := hS (by rw [List.length_map]; omega)
   refine (Any2.slices_BinarySearch_string Tryz.laysBs b o n c (bsX hv d) (bk d) w (by omega) (fun j hj => ?_)).mono ?_
   · have hjl : j < hv.length := by omega
     rw [hc j (bk hv[j]) (by rw [List.getElem?_map, List.getElem?_eq_getElem hjl]; rfl)]
     unfold bsX
     rw [List.getElem?_eq_getElem hjl]
   · rintro e w' ⟨rfl, hq⟩
     have hd : decide (Lib.bsGo (fun t => Op.bytesLess (bsX hv d t).toList (bk d).toList) n 0 n < n ∧ bsX hv d (Lib.bsGo (fun t => Op.bytesLess (bsX hv d t).toList (bk d).toList) n 0 n) = bk d) = decide (d ∈ hv) := by
      rw [decide_eq_decide]; exact bs_in hr d hn
     exact ⟨Lib.bsGo (fun t => Op.bytesLess (bsX hv d t).toList (bk d).toList) n 0 n, by rw [← hd], hq⟩
set_option maxRecDepth 100000 in
set_option maxHeartbeats 2000000 in
/-- Cut's function: whether a text is there. -/
theorem cut1_any (bh : Nat) (A : Option Addr) (n c : Nat) (hv : List Gid) (d : Gid) (w : World) (hc : w.cell? ⟨bh, 0, none⟩ = some (.slice A n c)) (hr : Rise hv) (hS : StrsAt w A (hv.map bk)) (hn : hv.length = n) (hb : n ≤ 268435456) :
 Calls Tryz.prog 45 #[.string (bk d), .pointer (some ⟨bh, 0, none⟩)] w fun e w' => e = .returned (.bool (decide (d ∈ hv))) ∧ ∃ q, w' = w.drewN q := by
 have HB := Lib.hid (bsearch_any A n c hv d w hr hS hn hb)
 clear hr hS hn hb
 generalize decide (d ∈ hv) = bb at *
 go_enter Tryz.func45, Tryz.ntmps45
 go_wp2_with fail
 refine HB.out.mono ?_
 rintro e w1 ⟨i, rfl, q, rfl⟩
 go_wp2
 go_ret
 exact ⟨rfl, q, rfl⟩
theorem sortWorld_block {w : World} {blk off m : Nat} {dk : Array Gid} {os : Array Obj} {k : Nat} (hk : k < w.heap.size) (hn : k ≠ blk) : (sortWorld encStr w blk off m dk os).heap[k]? = w.heap[k]? := by
 unfold sortWorld grow
 rw [Array.getElem?_append_left (by simp [putRow, mapBlock]; exact hk)]
 simp [putRow, mapBlock, Array.getElem?_modify, Ne.symm hn]
theorem StrsAt.keepB {w w' : World} {A : Option Addr} {P : List ByteArray} (h : StrsAt w A P) (hs : w.heap.size ≤ w'.heap.size) (hb : ∀ b o, A = some ⟨b, o, none⟩ → 0 < P.length → w'.heap[b]? = w.heap[b]?) : StrsAt w' A P := fun hl => by
 obtain ⟨b, o, hA, hlt, h2⟩ := h hl
 exact ⟨b, o, hA, Nat.lt_of_lt_of_le hlt hs, fun i s hi => (World.cell?_of_block (hb b o hA hl)).trans (h2 i s hi)⟩
theorem StrsAt.fore {w : World} {A : Option Addr} {P Q : List ByteArray} (h : StrsAt w A (P ++ Q)) : StrsAt w A P := fun hl => by
 obtain ⟨b, o, hA, hlt, h2⟩ := h (by rw [List.length_append]; omega)
 exact ⟨b, o, hA, hlt, fun i s hi => h2 i s (by rw [List.getElem?_append_left (List.getElem?_eq_some_iff.1 hi).1]; exact hi)⟩
end Go.Proofs.YtihanglnjghcfaaGreatDoor
namespace Go.Proofs.YtihanglnjghcfaaGreatDoor
open Go.RowKit Go.Maps Go.Sort
set_option linter.unusedVariables false
set_option linter.unusedSimpArgs false

def dropG (hv P : List Gid) : List Gid := P.filter fun d => !decide (d ∈ hv)
def DelPost (A : Option Addr) (n : Nat) (L : List Gid) (w : World) (e : Ending) (w' : World) : Prop :=
 e = .returned (.slice A L.length n) ∧ StrsAt w' A (L.map bk) ∧ L.length ≤ n ∧ Chg (fun k => Value.ownBlock (.slice A n n) = some k) w w'
set_option maxRecDepth 100000 in
set_option maxHeartbeats 2000000 in
theorem del_any (B : Nat) (A : Option Addr) (n : Nat) (P : List Gid) (w : World) (bh : Nat) (Ah : Option Addr) (m ch : Nat) (hv : List Gid) (ho : OwnS w B 9 1 (.slice A n n) n (strVs P)) (hb : n ≤ 268435456)
 (hc : w.cell? ⟨bh, 0, none⟩ = some (.slice Ah m ch)) (hr : Rise hv) (hS : StrsAt w Ah (hv.map bk)) (hm : hv.length = m) (hmb : m ≤ 268435456)
 (hsep : ∀ k, Value.ownBlock (.slice A n n) = some k → bh ≠ k ∧ ∀ b o, Ah = some ⟨b, o, none⟩ → b ≠ k) :
 Calls Tryz.prog 44 #[.slice A n n, .func (.func 45) #[] #[.pointer (some ⟨bh, 0, none⟩)]] w (DelPost A n (dropG hv P) w) := by
 have hl := ho.strs
 by_cases h0 : n = 0
 · have hP : P = [] := List.length_eq_zero_iff.1 (by omega)
   subst hP
   subst h0
   have HI := Lib.hid (AnyE.slices_IndexFunc_empty (P := Tryz.prog) (ρ := Tryz.laysSlH10_f44_ren) { Tryz.laysSlH10_f44 with } A 0 (.func (.func 45) #[] #[.pointer (some ⟨bh, 0, none⟩)]) w)
   clear hl ho hb hc hr hS hm hmb hsep
   go_enter Tryz.func44, Tryz.ntmps44
   go_wp2_with fail
   refine HI.out.mono ?_
   rintro e w1 ⟨rfl, hww⟩
   have hww2 := hww.symm
   subst hww2
   go_wp2
   go_ret
   exact ⟨rfl, StrsAt.nil, Nat.le_refl _, Chg.refl _ _⟩
 · subst hl
   obtain ⟨blk, off, c', hv', hbb, hlt, hcl⟩ := ho.cells (by simp [strVs]; omega)
   injection hv' with hA _ hcc
   subst hA
   obtain ⟨hs1, hs2⟩ := hsep blk rfl
   have hbh := block_lt hc
   have hH : Holds encStr w blk off P.toArray := fun j hj => by
    have hj2 : j < P.length := by simpa using hj
    refine ⟨?_, (ho.free (j := j) (by simp [strVs]; exact hj2)).1⟩
    rw [hcl j (by simp [strVs]; exact hj2)]
    unfold strVs
    rw [List.getElem?_map, List.getElem?_eq_getElem hj2, Option.map_some]
    have : (P.toArray)[j]! = P[j] := by rw [getElem!_pos P.toArray j (by simpa using hj2)]; simp
    rw [this]
    rfl
   have hp : PredAt Tryz.prog 45 #[.pointer (some ⟨bh, 0, none⟩)] encStr (fun d => decide (d ∈ hv)) w := fun W x hb9 =>
    cut1_any bh Ah m ch hv x W ((hb9.cell (p := ⟨bh, 0, none⟩) hbh).trans hc) hr (hS.below hb9) hm hmb
   have hpo : PredOver Tryz.prog 45 #[.pointer (some ⟨bh, 0, none⟩)] encStr (fun d => decide (d ∈ hv)) blk off P.toArray.size w := fun n9 os dk x hdk =>
    cut1_any bh Ah m ch hv x (sortWorld encStr w blk off n9 dk os) ((World.cell?_of_block (sortWorld_block hbh hs1)).trans hc) hr (hS.keepB (by simp [sortWorld, grow, putRow, mapBlock, Sort.ahead, World.drewN]) (fun b o hA hl => by
     obtain ⟨b', o', hA', hlt', _⟩ := hS hl
     rw [hA] at hA'
     injection hA' with hA'
     injection hA' with e1 e2
     exact sortWorld_block (by omega) (hs2 b o hA))) hm hmb
   have hD := Tryz.slices_DeleteFunc encStr (fun _ => rfl) (fun d => decide (d ∈ hv)) 45 #[.pointer (some ⟨bh, 0, none⟩)] (fun args W => enters_of Tryz.func45 (by kernel_rfl) rfl _ _) [] (fun W => Tryz.zeroValue9 W) blk off P.length P.toArray w hp hpo hH (by simp; omega) (by simp)
   refine hD.mono ?_
   rintro e w' ⟨rfl, q, rfl⟩
   have hlen : ((dropG hv P) ++ List.replicate (P.length - (dropG hv P).length) ([] : Gid)).length = P.length := by
    have : (dropG hv P).length ≤ P.length := List.length_filter_le _ _
    simp; omega
   have how := (putRow_owns (w := Sort.ahead w q) (ho.heap fun _ _ => rfl) hlen).strsAt
   rw [List.map_append] at how
   refine ⟨rfl, ?_, List.length_filter_le _ _, rfl, rfl, rfl, by simp [putRow, mapBlock, Sort.ahead, World.drewN], fun k hk hn => ?_⟩
   · have h2 := how.fore
     simpa [dropG] using h2
   · have hne : blk ≠ k := fun e => hn (by subst e; rfl)
     simp [putRow, mapBlock, Array.getElem?_modify, hne, Sort.ahead, World.drewN]
end Go.Proofs.YtihanglnjghcfaaGreatDoor
namespace Go.Proofs.YtihanglnjghcfaaGreatDoor
open Go.RowKit Go.Maps
set_option linter.unusedVariables false
set_option linter.unusedSimpArgs false

/-- The law's Get, its memory in fixed blocks. -/
def GetFx (r b1 b2 : Nat) (R : List Kn) (gone : Gid) (F0 F : Nat → Prop) (qs : List Gid) (w : World) : Prop := F = F0 ∧ GetSt r b1 b2 R gone F0 [] w
theorem getter_fx (F0 : Nat → Prop) (r b1 b2 : Nat) (R : List Kn) (gone : Gid) (hl : R.length ≤ 1073741824) (hz : ∀ x ∈ R, x.b.length ≤ 140737488351300) :
 Getter 38 (.pointer (some ⟨b1, 0, none⟩)) (.pointer (some ⟨b2, 0, none⟩)) (withoutK R gone) (GetFx r b1 b2 R gone F0) where
 ent := fun W args => enters_of Tryz.func38 (by kernel_rfl) rfl _ _
 low := fun h => by obtain ⟨rfl, h⟩ := h; exact h.1
 keep := fun {F S qs w w'} h hc hS => by
  obtain ⟨rfl, h⟩ := h
  exact ⟨rfl, (getter_get r b1 b2 R gone hl hz).keep h hc hS⟩
 call := fun {F qs w} d h => by
  obtain ⟨rfl, h0, h1, h2, h3, h4, h5⟩ := h
  refine (get1_any w F r b1 b2 R gone d h1 hl hz h4 h5).mono ?_
  rintro e w1 ⟨hb, ht⟩
  exact ⟨F, ⟨rfl, fun k hk => Nat.lt_of_lt_of_le (h0 k hk) hb.size, h1.below hb, h2, h3, (hb.cell (block_lt h4)).trans h4, (hb.cell (block_lt h5)).trans h5⟩, Chg.of_below hb, fun k hk => .inl hk, ht⟩
theorem lookG_err {G : Gid → Option Gob} {l : List Git} {i : Nat} {x : Int} (h : lookG G l i = .error x) : x ≠ 0 := by
 unfold lookG at h
 split at h
 · cases h
 · split at h
   · injection h with h; omega
   · split at h
     · injection h with h; omega
     · split at h
       · injection h with h; omega
       · split at h
         · injection h with h; omega
         · cases h
theorem goG_err {G : Gid → Option Gob} {most : Int} : ∀ {n i : Nat} {l : List Git} {x : Int}, goG G most n i l = .error x → x ≠ 0
 | 0, _, _, _, h => by cases h
 | n + 1, i, l, x, h => by
  unfold goG at h
  split at h
  · split at h
    · injection h with h; omega
    · split at h
      · rename_i e he
        injection h with h
        subst h
        exact lookG_err he
      · exact goG_err h
  · cases h
theorem goG_sub {G : Gid → Option Kn} {U : List Gid} (hu : Univ G U) {most : Int} : ∀ {n i : Nat} {l m : List Git}, goG (gobG G) most n i l = .ok m → SubU U l → SubU U m
 | 0, _, l, m, h, hs => by injection h with h; subst h; exact hs
 | n + 1, i, l, m, h, hs => by
  rcases Nat.lt_or_ge i l.length with hl | hl
  · by_cases hb : max most 0 ≤ (i : Int)
    · rw [goG_big hl hb] at h; cases h
    · rw [goG_step hl hb] at h
      split at h
      · exact goG_sub hu h (lookW_sub hu false i hs)
      · cases h
  · rw [goG_end hl] at h; injection h with h; subst h; exact hs
theorem closR_sub {G : Gid → Option Kn} {U rs : List Gid} {most : Int} {m : List Git} (hu : Univ G U) (hr : ∀ r ∈ rs, r ∈ U) (h : closR G U rs most = .ok m) : SubU U m :=
 goG_sub hu h (rootsP_sub rs [] (fun x hx => by simp at hx) hr)
theorem clos_fx (hSo : SortsS) (F0 : Nat → Prop) (r b1 b2 : Nat) (R : List Kn) (gone : Gid) {U : List Gid} (hU : Univ (withoutK R gone) U) (w : World) (hst : GetSt r b1 b2 R gone F0 [] w) (hE : EnvO w) (h1 : ¬ F0 1) (h2 : ¬ F0 2)
 (A : Option Addr) (n c : Nat) (rs : List Gid) (most : Int) (hR : StrsAt w A (rs.map bk)) (hn : rs.length = n) (hl : n ≤ 268435456) (hs : ∀ r ∈ rs, r.length ≤ 1099511627776) (hrU : ∀ r ∈ rs, r ∈ U) (hRl : R.length ≤ 1073741824) (hz : ∀ x ∈ R, x.b.length ≤ 268435456) :
 Calls Tryz.prog 16 #[fnV 38 (.pointer (some ⟨b1, 0, none⟩)) (.pointer (some ⟨b2, 0, none⟩)), .slice A n c, .int .i64 most] w fun e w' =>
  GetSt r b1 b2 R gone F0 [] w' ∧ Chg F0 w w' ∧ ClosAns (closR (withoutK R gone) U rs most) w w' e := by
 refine (closure_any hSo (getter_fx F0 r b1 b2 R gone hRl (fun x hx => by have := hz x hx; omega)) hU F0 [] w A n c rs most ⟨rfl, hst⟩ hE h1 h2 hR hn hl hs hrU).mono ?_
 rintro e w' ⟨F', qs', hst', _, hc, _, ha⟩
 exact ⟨hst'.2, hc, ha⟩
def CutPost (F0 : Nat → Prop) (r b1 b2 : Nat) (R : List Kn) (gone : Gid) (U ws hs : List Gid) (most : Int) (w : World) (e : Ending) (w' : World) : Prop :=
 GetSt r b1 b2 R gone F0 [] w' ∧ Chg F0 w w' ∧
 match closR (withoutK R gone) U ws most with
 | .error x => e = .returned (.tuple #[.slice none 0 0, .int .i64 x])
 | .ok m => ∃ M A, ThRun (gobG (withoutK R gone)) 0 (parG [] hs) M ∧ e = .returned (.tuple #[.slice A (dropG (sortG (thOut (withoutK R gone) M)) (sortG (m.map (·.id)))).length (dropG (sortG (thOut (withoutK R gone) M)) (sortG (m.map (·.id)))).length, .int .i64 0]) ∧
  StrsAt w' A ((dropG (sortG (thOut (withoutK R gone) M)) (sortG (m.map (·.id)))).map bk) ∧ (∀ b o, A = some ⟨b, o, none⟩ → w.heap.size ≤ b) ∧ m.length ≤ 268435456
set_option maxRecDepth 100000 in
set_option maxHeartbeats 4000000 in
theorem cut_any (hSo : SortsS) (F0 : Nat → Prop) (r b1 b2 : Nat) (R : List Kn) (gone : Gid) {U : List Gid} (hU : Univ (withoutK R gone) U) (w : World) (hst : GetSt r b1 b2 R gone F0 [] w) (hE : EnvO w) (h1 : ¬ F0 1) (h2 : ¬ F0 2)
 (A : Option Addr) (n c : Nat) (ws : List Gid) (A2 : Option Addr) (n2 c2 : Nat) (hs : List Gid) (most : Int) (hW : StrsAt w A (ws.map bk)) (hn : ws.length = n) (hl : n ≤ 268435456) (hsz : ∀ r ∈ ws, r.length ≤ 1099511627776) (hwU : ∀ r ∈ ws, r ∈ U)
 (hH : StrsAt w A2 (hs.map bk)) (hn2 : hs.length = n2) (hl2 : n2 ≤ 268435456) (hsz2 : ∀ r ∈ hs, r.length ≤ 1099511627776) (hhU : ∀ r ∈ hs, r ∈ U) (hHF : ∀ b o, A2 = some ⟨b, o, none⟩ → 0 < hs.length → ¬ F0 b) (hRl : R.length ≤ 1073741824) (hz : ∀ x ∈ R, x.b.length ≤ 268435456) :
 Calls Tryz.prog 26 #[fnV 38 (.pointer (some ⟨b1, 0, none⟩)) (.pointer (some ⟨b2, 0, none⟩)), .slice A n c, .slice A2 n2 c2, .int .i64 most] w (CutPost F0 r b1 b2 R gone U ws hs most w) := by
 have HCL := Lib.hid (clos_fx hSo F0 r b1 b2 R gone hU w hst hE h1 h2 A n c ws most hW hn hl hsz hwU hRl hz)
 have HSO := Lib.hid hSo
 have HU := Lib.hid hU
 have HE := Lib.hid hE
 have HLT := Lib.hid hst.1
 have HT := Lib.hid (And.intro h1 h2)
 have HH := Lib.hid (And.intro hH (And.intro hn2 (And.intro hl2 (And.intro hsz2 (And.intro hhU hHF)))))
 have HZ := Lib.hid (And.intro hRl hz)
 have HWU := Lib.hid hwU
 clear hSo hU hst hE h1 h2 hW hn hl hsz hwU hH hn2 hl2 hsz2 hhU hHF hRl hz
 unfold CutPost
 cases hC : closR (withoutK R gone) U ws most with
 | error x =>
  rw [hC] at HCL
  have hx : ¬ x = 0 := goG_err hC
  have hx2 : (x == 0) = false := by rw [beq_eq_false_iff_ne]; exact hx
  clear hC
  unfold fnV at *
  go_enter Tryz.func26, Tryz.ntmps26
  go_wp2_with fail
  refine HCL.out.mono ?_
  rintro e w1 ⟨hs1, hc1, rfl⟩
  have HR := Lib.hid (And.intro hs1 hc1)
  clear hs1 hc1
  go_wp2
  go_ret2
  exact ⟨HR.out.1, HR.out.2, rfl⟩
 | ok m =>
  rw [hC] at HCL
  have HML : Hid (m.length ≤ 268435456) := Lib.hid (by have h1 := sub_len (closR_one hC) (closR_sub HU.out HWU.out hC); have h2 := HU.out.num; omega)
  clear hC
  go_enter Tryz.func26, Tryz.ntmps26
  unfold fnV at HCL ⊢
  go_wp2_with fail
  refine HCL.out.mono ?_
  rintro e w1 ⟨hs1, hc1, A1, rfl, ho1⟩
  have HO1 := Lib.hid ho1
  have HC1 := Lib.hid hc1
  have HTH := Lib.hid (there_any HSO.out F0 r b1 b2 R gone HU.out w1 hs1 (HE.out.chg hc1 HT.out.1 HT.out.2) HT.out.1 HT.out.2 A2 n2 c2 hs (fun hl => by
   obtain ⟨b, o, hA, hlt, h2⟩ := HH.out.1 hl
   exact ⟨b, o, hA, Nat.lt_of_lt_of_le hlt hc1.size, fun i s hi => cell_chg (h2 i s hi) hc1 (HH.out.2.2.2.2.2 b o hA (by rw [List.length_map] at hl; exact hl))⟩) HH.out.2.1 HH.out.2.2.1 HH.out.2.2.2.1 HH.out.2.2.2.2.1 HZ.out.1 HZ.out.2)
  unfold fnV at HTH
  clear hs1 hc1 ho1 HCL
  go_wp2_with fail
  refine HTH.out.mono ?_
  rintro e w2 ⟨hs2, hc2, M, A3, hrun, hM, rfl, ho3⟩
  have hnd : M.Nodup := hrun.nodup (parG_nodup _ _ List.nodup_nil)
  have hri : Rise (sortG (thOut (withoutK R gone) M)) := sortG_rise (List.Nodup.sublist (List.filter_sublist ..) hnd)
  have HRUN := Lib.hid hrun
  have hmn : (thOut (withoutK R gone) M).length ≤ 268435456 := Nat.le_trans (thOut_len _ _) hM
  have hhl : (sortG (thOut (withoutK R gone) M)).length = (thOut (withoutK R gone) M).length := sortG_len _
  have hlt3 := ho3.lt
  have hcA := Cel.new w2 32 #[.slice A3 (thOut (withoutK R gone) M).length (thOut (withoutK R gone) M).length] (oneF (.slice A3 (thOut (withoutK R gone) M).length (thOut (withoutK R gone) M).length)) (fun j hj => by
   have : j = 0 := by simp at hj; omega
   subst this; rfl)
  have hbA : Below w2.heap.size w2 (w2.alloc (.cells #[.slice A3 (thOut (withoutK R gone) M).length (thOut (withoutK R gone) M).length] 32)) := (Below.refl _ _).alloc (Nat.le_refl _) _
  have ho2 := HO1.out.chg hc2 (fun k hk h => by have h1 := (HO1.out.lt k hk).1; have h2 := HLT.out k h; omega)
  have hlt1 := HO1.out.lt
  have e1 : (sortG (m.map (·.id))).length = m.length := by rw [sortG_len, List.length_map]
  have hdel := del_any w.heap.size A1 m.length (sortG (m.map (·.id))) (w2.alloc (.cells #[.slice A3 (thOut (withoutK R gone) M).length (thOut (withoutK R gone) M).length] 32)) w2.heap.size A3 _ _ (sortG (thOut (withoutK R gone) M))
   (ho2.low _ hbA) HML.out (hcA.cell 0 (show 0 < 1 by decide)) hri (ho3.strsAt.below hbA) hhl hmn (fun k hk => by
    have h1 := (hlt1 k hk).2
    have h3 := hc2.size
    refine ⟨by omega, fun b o hA e => ?_⟩
    have h4 := (hlt3 b (by rw [hA]; rfl)).1
    omega)
  have HDEL := Lib.hid hdel
  have HBA := Lib.hid hbA
  have HS2 := Lib.hid hs2
  have HC2 := Lib.hid hc2
  have HL1 := Lib.hid hlt1
  clear hs2 hc2 hrun hM hnd hri hmn hhl hlt3 hcA hbA ho2 hlt1 e1 hdel ho3 HTH
  go_upto_region 5 with (fail)
  generalize w2.alloc (.cells #[.slice A3 (thOut (withoutK R gone) M).length (thOut (withoutK R gone) M).length] 32) = w3 at *
  generalize hLL : dropG (sortG (thOut (withoutK R gone) M)) (sortG (m.map (·.id))) = L at *
  have HLL := Lib.hid hLL
  clear hLL
  go_wp2_with fail
  refine HDEL.out.mono ?_
  rintro e w4 ⟨rfl, hst4, hln4, hc4⟩
  have HCP := Lib.hid (clipS_any A1 L.length m.length w4 hln4 (by have := HML.out; omega))
  have HS4 := Lib.hid hst4
  have HC4 := Lib.hid hc4
  clear hst4 hln4 hc4
  go_wp2_with fail
  refine HCP.out.mono ?_
  rintro e w5 ⟨rfl, hww⟩
  subst hww
  go_wp2
  go_ret2
  have hlo : ∀ k, F0 k → k < w2.heap.size := HS2.out.1
  have hc24 : Chg (fun k => Value.ownBlock (.slice A1 m.length m.length) = some k) w2 w4 := (Chg.of_below HBA.out).trans HC4.out (fun _ _ h => h)
  have hno : ∀ k, F0 k → ¬ Value.ownBlock (.slice A1 m.length m.length) = some k := fun k hk h => by have h1 := (HL1.out k h).1; have h2 := HLT.out k hk; omega
  refine ⟨(getter_get r b1 b2 R gone HZ.out.1 (fun x hx => by have := HZ.out.2 x hx; omega)).keep HS2.out hc24 hno, (HC1.out.trans HC2.out (fun _ _ h => h)).trans hc24 (fun k hk h => ?_), M, A1, HRUN.out, by rw [HLL.out]; rfl, by rw [HLL.out]; exact HS4.out, fun b o hA => (HL1.out b (by rw [hA]; rfl)).1, HML.out⟩
  have := (HL1.out k h).1; omega
end Go.Proofs.YtihanglnjghcfaaGreatDoor
namespace Go.Proofs.YtihanglnjghcfaaGreatDoor
open Go.RowKit Go.Maps
set_option linter.unusedVariables false
set_option linter.unusedSimpArgs false

theorem drop_take {hv P : List Gid} {i : Nat} {x : Gid} (h : P[i]? = some x) : dropG hv (P.take (i + 1)) = if x ∈ hv then dropG hv (P.take i) else dropG hv (P.take i) ++ [x] := by
 unfold dropG
 rw [List.take_add_one, h, List.filter_append]
 by_cases hx : x ∈ hv
 · rw [if_pos hx]; simp [hx]
 · rw [if_neg hx]; simp [hx]
def RCutPost (R : List Kn) (U ws hs : List Gid) (most : Int) (w : World) (e : Ending) (w' : World) : Prop :=
 Below w.heap.size w w' ∧
 match closR (getK R) U ws most with
 | .error x => e = .returned (.tuple #[.slice none 0 0, .int .i64 x])
 | .ok m => ∃ M A c, ThRunD (gobG (getK R)) 0 (parG [] (hs.filter (thereB (gobG (getK R))))) M ∧ e = .returned (.tuple #[.slice A (dropG M (putAllS [] (m.map (·.id)))).length c, .int .i64 0]) ∧ StrsAt w' A ((dropG M (putAllS [] (m.map (·.id)))).map bk)
set_option maxRecDepth 100000 in
set_option maxHeartbeats 4000000 in
theorem rcut_any (w : World) (K : Nat → Prop) (r : Nat) (R : List Kn) (U : List Gid) (A : Option Addr) (n c : Nat) (ws : List Gid) (A2 : Option Addr) (n2 c2 : Nat) (hs : List Gid) (most : Int) (hR : RepAt w K r R) (hRl : R.length ≤ 1073741824) (hU : Univ (getK R) U)
 (hS : StrsAt w A (ws.map bk)) (hn : ws.length = n) (hl : n ≤ 268435456) (hwU : ∀ r ∈ ws, r ∈ U) (hS2 : StrsAt w A2 (hs.map bk)) (hn2 : hs.length = n2) (hl2 : n2 ≤ 268435456) (hhU : ∀ r ∈ hs, r ∈ U) :
 Calls Tryz.prog 27 #[.pointer (some ⟨r, 0, none⟩), .slice A n c, .slice A2 n2 c2, .int .i64 most] w (RCutPost R U ws hs most w) := by
 obtain ⟨i0, hi, hz0, hz1, hz2⟩ := info_parts info_str1
 have HCL := Lib.hid (rclosure_any w K r R U A n c ws most hR hRl hU hS hn hl hwU)
 have HR := Lib.hid hR
 have HRL := Lib.hid hRl
 have HU := Lib.hid hU
 have HWU := Lib.hid hwU
 have HH := Lib.hid (And.intro hS2 (And.intro hn2 (And.intro hl2 hhU)))
 clear hR hRl hU hS hn hl hwU hS2 hn2 hl2 hhU
 unfold RCutPost
 cases hC : closR (getK R) U ws most with
 | error x =>
  rw [hC] at HCL
  have hx : ¬ x = 0 := goG_err hC
  have hx2 : (x == 0) = false := by rw [beq_eq_false_iff_ne]; exact hx
  clear hC
  go_enter Tryz.func27, Tryz.ntmps27
  go_wp2_with fail
  refine HCL.out.mono ?_
  rintro e w1 ⟨hb1, rfl⟩
  have HB := Lib.hid hb1
  clear hb1
  go_wp2
  go_ret2
  exact ⟨HB.out, rfl⟩
 | ok m =>
  rw [hC] at HCL
  have HML : Hid (m.length ≤ 268435456) := Lib.hid (by have h1 := sub_len (closR_one hC) (closR_sub HU.out HWU.out hC); have h2 := HU.out.num; omega)
  have HLL : Hid ((putAllS [] (m.map (·.id))).length ≤ 268435456) := Lib.hid (by rw [← clos_same hC, sortG_len, List.length_map]; exact HML.out)
  clear hC
  unfold RClosAns at HCL
  dsimp only at HCL ⊢
  generalize putAllS [] (m.map (·.id)) = L at *
  go_enter Tryz.func27, Tryz.ntmps27
  go_wp2_with fail
  refine HCL.out.mono ?_
  rintro e w1 ⟨hb1, A1, c1, rfl, ho1⟩
  have HB1 := Lib.hid hb1
  have HO1 := Lib.hid ho1.strsAt
  have HTH := Lib.hid (rthere_any w1 K r R U A2 n2 c2 hs (HR.out.below hb1) HRL.out HU.out (HH.out.1.below hb1) HH.out.2.1 HH.out.2.2.1 HH.out.2.2.2)
  unfold RTherePost at HTH
  clear hb1 ho1 HCL
  go_wp2_with fail
  refine HTH.out.mono ?_
  rintro e w2 ⟨hb2, M, A3, c3, hrun, hM, rfl, hs3⟩
  have HB2 := Lib.hid hb2
  have HO2 := Lib.hid (HO1.out.below hb2)
  have HS3 := Lib.hid hs3
  have HRUN := Lib.hid hrun
  have HMM := Lib.hid hM
  clear hb2 hrun hM hs3 HTH
  go_wp2
  go_loopw [13, 14] (fun v13 v14 wr => ∃ (i : Nat) (out : List Gid) (A4 : Option Addr) (c4 : Nat), v14 = .int .i64 i ∧ v13 = .slice A4 out.length c4 ∧ i ≤ L.length ∧ out = dropG M (L.take i) ∧ DocS wr (fun k => w2.heap.size ≤ k) A4 c4 out ∧ Below w2.heap.size w2 wr) (fun _ v14 _ => L.length - (intOf v14).toNat)
  case atStart => exact ⟨0, [], none, 0, rfl, rfl, Nat.zero_le _, rfl, DocS.nil _ _, Below.refl _ _⟩
  case round =>
   obtain ⟨i, out, A4, c4, rfl, rfl, hj, hout, hd, hb⟩ := hrel
   have HOUT := Lib.hid hout
   have HD := Lib.hid hd
   have HB := Lib.hid hb
   have HOL : Hid (out.length ≤ 268435456) := Lib.hid (by
    rw [hout]
    have h1 : (dropG M (L.take i)).length ≤ (L.take i).length := List.length_filter_le _ _
    have h2 := HLL.out
    rw [List.length_take] at h1
    omega)
   clear hout hd hb
   generalize wr = w5 at *
   by_cases hlt : i < L.length
   · have d1 : decide ((i : Int) < (L.length : Int)) = true := decide_eq_true (by omega)
     have d1' : decide (i < L.length) = true := decide_eq_true hlt
     obtain ⟨x, hx⟩ : ∃ x, L[i]? = some x := ⟨_, List.getElem?_eq_getElem hlt⟩
     obtain ⟨b, o, rfl, hbl, hcl⟩ := HO2.out (by rw [List.length_map]; omega)
     have f0 : w5.cell? ⟨b, o + i, none⟩ = some (.string (bk x)) := (HB.out.cell (p := ⟨b, o + i, none⟩) hbl).trans (hcl i (bk x) (by rw [List.getElem?_map, hx]; rfl))
     have HTK := Lib.hid (drop_take (hv := M) hx)
     have HHA := Lib.hid (rhas_any w5 A3 M.length c3 M x (HS3.out.below HB.out) rfl (by have := HMM.out; omega))
     have hle : ¬ (L.length : Int) ≤ i := by omega
     have hn0 : (0 : Int) ≤ i := by omega
     have hnl : (i : Int) < L.length := by omega
     have hw1 : IntKind.i64.wrap ((i : Int) + 1) = (i : Int) + 1 := IntWalk.i64_in _ (by have := HLL.out; omega)
     clear hx hbl hcl
     by_cases hm : x ∈ M
     · have HTK2 : Hid (out = dropG M (L.take (i + 1))) := Lib.hid (by rw [HTK.out, if_pos hm]; exact HOUT.out)
       rw [decide_eq_true hm] at HHA
       clear hm
       go_wp2_with (go_at_call 28; refine HHA.out.mono ?_; rintro e w8 ⟨rfl, hww⟩; have hww2 := hww.symm; subst hww2)
       go_wp2
       go_roundw
       case rel => exact ⟨i + 1, out, A4, c4, rfl, rfl, hlt, HTK2.out, HD.out, HB.out⟩
       case measure => simp [intOf]; omega
     · have HTK2 : Hid (out ++ [x] = dropG M (L.take (i + 1))) := Lib.hid (by rw [HTK.out, if_neg hm, ← HOUT.out])
       have HOA := Lib.hid (HD.out.1.alloc (.cells #[.string (bk x)] 9))
       have HBA : Hid (Below w2.heap.size w2 (w5.alloc (.cells #[.string (bk x)] 9))) := Lib.hid (HB.out.alloc HB.out.size _)
       have HS1 := Lib.hid (Src.one_new (P := Tryz.prog) (w := w5) (u := .string (bk x)) (t := 9) rfl)
       have hm9 : out.length + 1 ≤ maxLen := by have := HOL.out; unfold maxLen; omega
       have hb9 : (out.length + 1) * 16 ≤ 140737488355328 := by have := HOL.out; omega
       rw [decide_eq_false hm] at HHA
       clear hm
       go_wp2_with (first | (at_builtin; go_loud (refine wpList_append_S rfl (.tmp 41) (.tmp 46) 32 32 rfl i0 (.string ⟨#[]⟩) 16 (.slice 9) Tryz.underlying32 Tryz.underlying32 (fun _ h => by cases h) hi hz0 hz1 hz2 rfl rfl rfl HOA.out HS1.out hm9 hb9 (Nat.zero_le _) ?_; intro A8 c8 w8; intro ho8 hg8 hw8)) | (go_at_call 28; refine HHA.out.mono ?_; rintro e w8 ⟨rfl, hww⟩; have hww2 := hww.symm; subst hww2))
       have HD8 := Lib.hid ((show DocS _ _ A4 c4 out from ⟨HOA.out, HD.out.2⟩).snoc (x := x) ho8 hw8 (by have := HBA.out.size; exact this))
       have HB8 := Lib.hid (HBA.out.grown hg8 HBA.out.size (fun j hj => HD.out.2 j hj))
       clear ho8 hg8 hw8 hm9 hb9
       go_wp2
       go_roundw
       case rel => exact ⟨i + 1, out ++ [x], A8, c8, rfl, by simp, hlt, HTK2.out, HD8.out, HB8.out⟩
       case measure => simp [intOf]; omega
   · have d1 : decide ((i : Int) < (L.length : Int)) = false := decide_eq_false (by omega)
     have d1' : decide (i < L.length) = false := decide_eq_false hlt
     have HOE : Hid (dropG M L = out) := Lib.hid (by rw [HOUT.out, List.take_of_length_le (by omega)])
     clear hlt
     go_wp2
     go_ret2
     exact ⟨(HB1.out.trans (HB2.out.mono HB1.out.size)).trans (HB.out.mono (by have := HB1.out.size; have := HB2.out.size; omega)), M, A4, c4, HRUN.out, by rw [HOE.out]; rfl, by rw [HOE.out]; exact HD.out.strs⟩
end Go.Proofs.YtihanglnjghcfaaGreatDoor
namespace Go.Proofs.YtihanglnjghcfaaGreatDoor
open Go.RowKit Go.Maps
set_option linter.unusedVariables false
set_option linter.unusedSimpArgs false

set_option maxRecDepth 100000 in
set_option maxHeartbeats 2000000 in
theorem sameTexts_any (A : Option Addr) (c : Nat) (A2 : Option Addr) (c2 n : Nat) (L : List Gid) (w : World) (h1 : StrsAt w A (L.map bk)) (h2 : StrsAt w A2 (L.map bk)) (hn : L.length = n) (hl : n ≤ 9223372036854775807) :
 Calls Tryz.prog 19 #[.slice A n c, .slice A2 n c2] w fun e w' => e = .returned (.bool true) ∧ Below w.heap.size w w' := by
 have H1 := Lib.hid h1
 have H2 := Lib.hid h2
 have HN := Lib.hid (And.intro hn hl)
 clear h1 h2 hn hl
 go_enter Tryz.func19, Tryz.ntmps19
 go_wp2
 go_loopw [5] (fun vn wr => ∃ i : Nat, vn = .int .i64 i ∧ i ≤ n ∧ Below w.heap.size w wr) (fun vn _ => n - (intOf vn).toNat)
 case atStart => exact ⟨0, rfl, by omega, Below.refl _ _⟩
 case round =>
  obtain ⟨i, rfl, hi, hb⟩ := hrel
  have HB := Lib.hid hb
  clear hb
  by_cases hlt : i < n
  · have d1 : decide ((i : Int) < (n : Int)) = true := decide_eq_true (by omega)
    have d1' : decide (i < n) = true := decide_eq_true hlt
    obtain ⟨x, hx⟩ : ∃ x, L[i]? = some x := ⟨_, List.getElem?_eq_getElem (by rw [HN.out.1]; exact hlt)⟩
    obtain ⟨b, o, rfl, hbl, hc⟩ := H1.out (by rw [List.length_map, HN.out.1]; omega)
    obtain ⟨b2, o2, rfl, hbl2, hc2⟩ := H2.out (by rw [List.length_map, HN.out.1]; omega)
    have f1 : wr.cell? ⟨b, o + i, none⟩ = some (.string (bk x)) := (HB.out.cell (p := ⟨b, o + i, none⟩) hbl).trans (hc i (bk x) (by rw [List.getElem?_map, hx]; rfl))
    have f2 : wr.cell? ⟨b2, o2 + i, none⟩ = some (.string (bk x)) := (HB.out.cell (p := ⟨b2, o2 + i, none⟩) hbl2).trans (hc2 i (bk x) (by rw [List.getElem?_map, hx]; rfl))
    have hle : ¬ (n : Int) ≤ i := by omega
    have hn0 : (0 : Int) ≤ i := by omega
    have hnl : (i : Int) < n := by omega
    have hw : IntKind.i64.wrap ((i : Int) + 1) = (i : Int) + 1 := IntWalk.i64_in _ (by have := HN.out; omega)
    clear hc hc2 hx hbl hbl2
    go_upto_region 6 with (fail)
    go_cut [25] (fun v wx => v = .bool false ∧ Below wr.heap.size wr wx)
    case first =>
     go_quiet (fail)
     go_wp2_with fail
     go_meet
     exact ⟨by first | rfl | simp, Below.drewN (Below.refl _ _) _⟩
    case rest =>
     obtain ⟨rfl, hbc⟩ := hcut
     have HB2 := Lib.hid (HB.out.trans (hbc.mono HB.out.size))
     clear hbc f1 f2
     go_wp2
     go_roundw
     case rel => exact ⟨i + 1, rfl, hlt, HB2.out⟩
     case measure => simp [intOf]; omega
  · have d1 : decide ((i : Int) < (n : Int)) = false := decide_eq_false (by omega)
    have d1' : decide (i < n) = false := decide_eq_false hlt
    go_wp2
    go_ret
    exact ⟨rfl, HB.out⟩
end Go.Proofs.YtihanglnjghcfaaGreatDoor
namespace Go.Proofs.YtihanglnjghcfaaGreatDoor
open Go.RowKit Go.Maps
set_option linter.unusedVariables false
set_option linter.unusedSimpArgs false

/-- A history with some odd objects more. -/
structure OddOk (R : List Kn) : Prop where
 ids : IdR R
 num : R.length ≤ 34
 sz : ∀ x ∈ R, x.b.length ≤ 2000
theorem OddOk.univ {R : List Kn} (h : OddOk R) (gone : Gid) {rs : List Gid} (hr : rs.length ≤ 100) : Univ (withoutK R gone) (univK R rs) :=
 univ_of (R := R) (fun d o h => without_mem h) (by have := h.num; omega) hr h.sz
end Go.Proofs.YtihanglnjghcfaaGreatDoor
namespace Go.Proofs.YtihanglnjghcfaaGreatDoor
open Go.RowKit Go.Maps
set_option linter.unusedVariables false
set_option linter.unusedSimpArgs false

/-- What is cut away, told the program's way and the document's: alike. -/
theorem cut_same {G : Gid → Option Kn} {U ws hs M M' : List Gid} {most : Int} {m : List Git} (hm : closR G U ws most = .ok m) (h : ThRun (gobG G) 0 (parG [] hs) M) (h' : ThRunD (gobG G) 0 (parG [] (hs.filter (thereB (gobG G)))) M') :
 dropG (sortG (thOut G M)) (sortG (m.map (·.id))) = dropG M' (putAllS [] (m.map (·.id))) := by
 rw [clos_same hm, there_same h h', ← thOut_there]
 unfold dropG
 refine List.filter_congr fun d _ => ?_
 congr 1
 rw [decide_eq_decide]
 exact sortG_mem
set_option maxRecDepth 100000 in
set_option maxHeartbeats 8000000 in
theorem graphCuts_walk (hSo : SortsS) (A : Option Addr) (n c : Nat) (xs : List Int) (A2 : Option Addr) (n2 c2 : Nat) (ys : List Int) (A3 : Option Addr) (n3 c3 : Nat) (zs : List Int) (miss : Int) (w : World) (hE : EnvO w) (hI : Ints .i64 w A xs) (hn : xs.length = n) (hnm : n ≤ 9223372036854775807) (hx : ∀ x ∈ xs, x ≤ 9223372036854775807)
 (hI2 : Ints .i64 w A2 ys) (hn2 : ys.length = n2) (hnm2 : n2 ≤ 9223372036854775807) (hy : ∀ x ∈ ys, x ≤ 9223372036854775807) (hI3 : Ints .i64 w A3 zs) (hn3 : zs.length = n3) (hnm3 : n3 ≤ 9223372036854775807) (hzz : ∀ x ∈ zs, x ≤ 9223372036854775807) (hm : miss ≤ 9223372036854775807) :
 Calls Tryz.prog 7 #[.slice A n c, .slice A2 n2 c2, .slice A3 n3 c3, .int .i64 miss] w fun e w' => e = .returned (.bool true) ∧ Below w.heap.size w w' := by
 have HSO := Lib.hid hSo
 have HLT := Lib.hid hE.lt
 have HEB : Hid (∀ W, Below w.heap.size w W → EnvO W) := Lib.hid (fun W hb => hE.below hb)
 have HMK := Lib.hid (make_any A n c xs w hI hn hnm)
 have HI2 := Lib.hid (And.intro hI2 (And.intro hn2 (And.intro hnm2 hy)))
 have HI3 := Lib.hid (And.intro hI3 (And.intro hn3 (And.intro hnm3 hzz)))
 have HMI := Lib.hid hm
 clear hSo hE hI hn hnm hx hI2 hn2 hnm2 hy hI3 hn3 hnm3 hzz hm
 go_enter Tryz.func7, Tryz.ntmps7
 go_wp2_with fail
 refine HMK.out.mono ?_
 rintro e w1 ⟨hb1, r, R, rfl, hR1, hM, hRl⟩
 have HR1 := Lib.hid hR1
 have HB1 := Lib.hid hb1
 have HO : Hid (OddOk R) := Lib.hid ⟨hM.ids, by omega, fun x hx => (hM.made x hx).2⟩
 have HSM := Lib.hid (some_any _ r R miss w1 HR1.out (by have := HO.out.num; omega) HMI.out)
 clear hb1 hR1 hM hRl HMK
 go_wp2_with fail
 refine HSM.out.mono ?_
 rintro e w2 ⟨rfl, hb2⟩
 generalize someK R miss = gone at *
 have HR2 := Lib.hid ((HR1.out.below hb2).mono (K' := fun k => w.heap.size ≤ k ∧ k < w2.heap.size) (fun k hk hl => ⟨hk, hl⟩))
 have HB2 := Lib.hid (HB1.out.trans (hb2.mono HB1.out.size))
 have HHO := Lib.hid (hole_any _ r R gone w2 HR2.out (by have := HO.out.num; omega))
 clear hb2 HSM HR1 HB1
 go_wp2_with fail
 refine HHO.out.mono ?_
 rintro e w3 ⟨hb3, r2, rfl, hh3⟩
 have HR3 := Lib.hid (HR2.out.below hb3)
 have HH3 := Lib.hid (hh3.mono (K' := fun k => w2.heap.size ≤ k ∧ k < w3.heap.size) (fun k hk hl => ⟨hk, hl⟩))
 have HB3 := Lib.hid (HB2.out.trans (hb3.mono HB2.out.size))
 have HS3 := Lib.hid hb3.size
 have HIA := Lib.hid (lids_any _ r R A2 n2 c2 ys w3 HR3.out (by have := HO.out.num; omega) (HI2.out.1.below HB3.out) HI2.out.2.1 HI2.out.2.2.1 HI2.out.2.2.2)
 clear hb3 hh3 HHO HR2
 go_wp2_with fail
 refine HIA.out.mono ?_
 rintro e w4 ⟨hb4, Aw, cw, rfl, hw4⟩
 have HR4 := Lib.hid (HR3.out.below hb4)
 have HH4 := Lib.hid (HH3.out.below hb4)
 have HW4 := Lib.hid hw4
 have HB4 := Lib.hid (HB3.out.trans (hb4.mono HB3.out.size))
 have HS4 := Lib.hid hb4.size
 have HIB := Lib.hid (lids_any _ r R A3 n3 c3 zs w4 HR4.out (by have := HO.out.num; omega) (HI3.out.1.below HB4.out) HI3.out.2.1 HI3.out.2.2.1 HI3.out.2.2.2)
 clear hb4 hw4 HIA HR3 HH3
 go_wp2_with fail
 refine HIB.out.mono ?_
 rintro e w5 ⟨hb5, Ah, ch, rfl, hw5⟩
 have hsz40 : ∀ zs : List Int, ∀ q ∈ idsK R zs, q.length ≤ 1099511627776 := fun zs q hq => by
  unfold idsK at hq
  obtain ⟨z, _, rfl⟩ := List.mem_map.1 hq
  have := someK_len HO.out.ids z; omega
 have HRS : Hid (((idsK R ys).length ≤ 6 ∧ ∀ q ∈ idsK R ys, q.length ≤ 1099511627776) ∧ (idsK R zs).length ≤ 6 ∧ ∀ q ∈ idsK R zs, q.length ≤ 1099511627776) := Lib.hid ⟨⟨idsK_len R ys, hsz40 ys⟩, idsK_len R zs, hsz40 zs⟩
 clear hsz40
 generalize idsK R ys = ws at *
 generalize idsK R zs = hs at *
 have HR5 := Lib.hid (HR4.out.below hb5)
 have HH5 := Lib.hid (HH4.out.below hb5)
 have HW5 := Lib.hid (HW4.out.low w5 hb5)
 have HV5 := Lib.hid hw5
 have HB5 := Lib.hid (HB4.out.trans (hb5.mono HB4.out.size))
 have HS5 := Lib.hid hb5.size
 have HGT := Lib.hid (get_any w5 r gone)
 unfold fnV at HGT
 have HWL := Lib.hid HW4.out.lt
 have HVL := Lib.hid hw5.lt
 clear hb5 hw5 HIB HR4 HH4 HW4
 go_wp2_with fail
 refine HGT.out.mono ?_
 rintro e w6 ⟨rfl, hb6, k61, k62⟩
 have HUN := Lib.hid (HO.out.univ gone (rs := ws ++ hs) (by have := HRS.out; simp; omega))
 have hst6 : GetSt r w5.heap.size (w5.heap.size + 1) R gone (fun k => (w.heap.size ≤ k ∧ k < w2.heap.size) ∨ k = w5.heap.size ∨ k = w5.heap.size + 1) [] w6 := ⟨fun k hk => by
  have h1 := block_lt k61
  have h2 := block_lt k62
  have h3 := HS3.out
  have h4 := HS4.out
  have h5 := HS5.out
  dsimp only at h1 h2
  omega, (HR5.out.below hb6).mono (fun k hk _ => .inl hk), .inr (.inl rfl), .inr (.inr rfl), k61, k62⟩
 have HB6 := Lib.hid (HB5.out.trans (hb6.mono HB5.out.size))
 have HCU := Lib.hid (cut_any HSO.out _ r _ _ R gone HUN.out w6 hst6 (HEB.out _ HB6.out) (fun h => by have h1 := HLT.out; have h2 := HB5.out.size; omega) (fun h => by have h1 := HLT.out; have h2 := HB5.out.size; omega)
  Aw ws.length cw ws Ah hs.length ch hs 100 (HW5.out.low w6 hb6).strsAt rfl (by have := HRS.out.1.1; omega) HRS.out.1.2 (fun q hq => univ_roots _ _ q (List.mem_append_left _ hq))
  (HV5.out.low w6 hb6).strsAt rfl (by have := HRS.out.2.1; omega) HRS.out.2.2 (fun q hq => univ_roots _ _ q (List.mem_append_right _ hq)) (fun b o hA hl h => by
   have h1 := HVL.out b (by rw [hA]; rfl)
   have h3 := HS3.out
   have h4 := HS4.out
   omega) (by have := HO.out.num; omega) (fun x hx => by have := HO.out.sz x hx; omega))
 have HH6 := Lib.hid (HH5.out.below hb6)
 have HW6 := Lib.hid (HW5.out.low w6 hb6)
 have HV6 := Lib.hid (HV5.out.low w6 hb6)
 unfold fnV at HCU
 unfold CutPost at HCU
 clear hb6 k61 k62 hst6 HGT HR5 HH5 HW5 HV5
 have HRC : Hid (∀ W, RepAt W (fun k => w2.heap.size ≤ k ∧ k < w3.heap.size) r2 (holeK R gone) → StrsAt W Aw (ws.map bk) → StrsAt W Ah (hs.map bk) → Calls Tryz.prog 27 #[.pointer (some ⟨r2, 0, none⟩), .slice Aw ws.length cw, .slice Ah hs.length ch, .int .i64 100] W (RCutPost (holeK R gone) (univK R (ws ++ hs)) ws hs 100 W)) := Lib.hid (fun W h1 h2 h3 =>
  rcut_any W _ r2 (holeK R gone) (univK R (ws ++ hs)) Aw ws.length cw ws Ah hs.length ch hs 100 h1 (by have h1 := holeK_le R gone; have := HO.out.num; omega) (by rw [hole_getK]; exact HUN.out) h2 rfl (by have := HRS.out.1.1; omega) (fun q hq => univ_roots _ _ q (List.mem_append_left _ hq)) h3 rfl (by have := HRS.out.2.1; omega) (fun q hq => univ_roots _ _ q (List.mem_append_right _ hq)))
 unfold RCutPost at HRC
 rw [hole_getK] at HRC
 have HKP : Hid (∀ W, Chg (fun k => (w.heap.size ≤ k ∧ k < w2.heap.size) ∨ k = w5.heap.size ∨ k = w5.heap.size + 1) w6 W → RepAt W (fun k => w2.heap.size ≤ k ∧ k < w3.heap.size) r2 (holeK R gone) ∧ StrsAt W Aw (ws.map bk) ∧ StrsAt W Ah (hs.map bk) ∧ Below w.heap.size w W) := Lib.hid (fun W hc => by
  have h3 := HS3.out
  have h4 := HS4.out
  have h5 := HS5.out
  refine ⟨HH6.out.keep hc (fun k hk _ h => by omega) (fun k hk _ => hk), (HW6.out.chg hc (fun k hk h => by have := HWL.out k hk; omega)).strsAt, (HV6.out.chg hc (fun k hk h => by have := HVL.out k hk; omega)).strsAt, HB6.out.trans (hc.below HB6.out.size (fun k hk h => by have h1 := HB2.out.size; omega))⟩)
 clear HH6 HW6 HV6 HWL HVL
 cases hC : closR (withoutK R gone) (univK R (ws ++ hs)) ws 100 with
 | error x =>
  rw [hC] at HCU HRC
  dsimp only at HCU HRC
  clear hC
  go_wp2_with fail
  refine HCU.out.mono ?_
  rintro e w7 ⟨_, hc7, rfl⟩
  obtain ⟨h1, h2, h3, h4⟩ := HKP.out w7 hc7
  have HRC7 := Lib.hid (HRC.out w7 h1 h2 h3)
  have HB7 := Lib.hid h4
  clear hc7 h1 h2 h3 h4 HCU HRC HKP
  go_wp2_with fail
  refine HRC7.out.mono ?_
  rintro e w8 ⟨hb8, rfl⟩
  have HB8 := Lib.hid (HB7.out.trans (hb8.mono HB7.out.size))
  have HST := Lib.hid (sameTexts_any none 0 none 0 0 [] w8 StrsAt.nil StrsAt.nil rfl (by omega))
  clear hb8 HRC7
  go_wp2_with fail
  refine HST.out.mono ?_
  rintro e w9 ⟨rfl, hb9⟩
  have HB9 := Lib.hid (HB8.out.trans (hb9.mono HB8.out.size))
  have HAW := Lib.hid (awake_any HSO.out w9 (HEB.out _ HB9.out))
  have e2 : (x == x) = true := beq_self_eq_true x
  clear hb9 HST
  go_wp2_with fail
  refine HAW.out.mono ?_
  rintro e w11 ⟨rfl, hb11⟩
  have HB11 := Lib.hid (HB9.out.trans (hb11.mono HB9.out.size))
  clear hb11
  go_wp2
  go_ret
  exact ⟨rfl, HB11.out⟩
 | ok m =>
  have HC := Lib.hid hC
  rw [hC] at HCU HRC
  dsimp only at HCU HRC
  clear hC
  go_wp2_with fail
  refine HCU.out.mono ?_
  rintro e w7 ⟨_, hc7, M, A7, hrun, rfl, hs7, _, hml⟩
  obtain ⟨h1, h2, h3, h4⟩ := HKP.out w7 hc7
  have HRC7 := Lib.hid (HRC.out w7 h1 h2 h3)
  have HB7 := Lib.hid h4
  have HRUN := Lib.hid hrun
  have HS7 := Lib.hid hs7
  have hll : (dropG (sortG (thOut (withoutK R gone) M)) (sortG (m.map (·.id)))).length ≤ 268435456 := Nat.le_trans (List.length_filter_le _ _) (by rw [sortG_len, List.length_map]; exact hml)
  have HLL := Lib.hid hll
  clear hc7 h1 h2 h3 h4 HCU HRC HKP hrun hs7 hml hll
  go_wp2_with fail
  refine HRC7.out.mono ?_
  rintro e w8 ⟨hb8, M8, A8, c8, hrun8, rfl, hs8⟩
  have hsame := cut_same HC.out HRUN.out hrun8
  rw [← hsame] at hs8 ⊢
  have HB8 := Lib.hid (HB7.out.trans (hb8.mono HB7.out.size))
  have HS78 := Lib.hid (HS7.out.below hb8)
  have HS8 := Lib.hid hs8
  clear hb8 hrun8 hs8 hsame HRC7 HS7
  generalize dropG (sortG (thOut (withoutK R gone) M)) (sortG (m.map (·.id))) = L at *
  have HST := Lib.hid (sameTexts_any A7 L.length A8 c8 L.length L w8 HS78.out HS8.out rfl (by have := HLL.out; omega))
  go_wp2_with fail
  refine HST.out.mono ?_
  rintro e w9 ⟨rfl, hb9⟩
  have HB9 := Lib.hid (HB8.out.trans (hb9.mono HB8.out.size))
  have HAW := Lib.hid (awake_any HSO.out w9 (HEB.out _ HB9.out))
  clear hb9 HST
  go_wp2_with fail
  refine HAW.out.mono ?_
  rintro e w11 ⟨rfl, hb11⟩
  have HB11 := Lib.hid (HB9.out.trans (hb11.mono HB9.out.size))
  clear hb11
  go_wp2
  go_ret
  exact ⟨rfl, HB11.out⟩
end Go.Proofs.YtihanglnjghcfaaGreatDoor
