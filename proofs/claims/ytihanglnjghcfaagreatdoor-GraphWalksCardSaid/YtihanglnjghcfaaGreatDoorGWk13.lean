/-
  DERIVED: THE SHELF's CONTRACTS AT THIS DUMP, IN PLAIN WORDS (tools/lay-plain.mjs out of 'TryzShelfW.lean', which tools/lay-shelf.mjs wrote): THE SAME DECLARATIONS UNDER THE SAME NAMES: 'import', 'namespace', 'open', 'def', 'theorem' AND NOTHING ELSE: no command of the shelf's: FOR A HAND-IN. Each laying: the table of numbers ('.._ren') and one theorem, a field a fact of the dump's own or the kernel's comparison; each contract: ONE APPLICATION.
-/
import Derived.Shelf.LaysM
import Derived.Ground.SlgmProg
import Derived.Shelf.SortM.Plain
import Derived.Shelf.SortM.SortNone
import Derived.Test.YtihanglnjghcfaaGreatDoorProg
import Derived.Test.YtihanglnjghcfaaGreatDoorGWk12
import Derived.Maps.Range
import Derived.Test.YtihanglnjghcfaaGreatDoorGWk11
import Derived.Test.YtihanglnjghcfaaGreatDoorGWk7
namespace Go.Proofs
open Go.Shelf
def Tryz.laysSlM6_f60_ren : Go.Shelf.Ren := ⟨fun | 6 => 60 | 8 => 81 | 9 => 80 | 19 => 101 | 20 => 102 | 21 => 93 | 22 => 94 | 23 => 95 | 24 => 96 | 25 => 97 | 26 => 98 | 27 => 64 | 28 => 99 | 29 => 100 | 36 => 117 | 31 => 118 | 32 => 119 | 37 => 120 | 38 => 121 | 39 => 87 | 41 => 134 | n => n, fun | 27 => 32 | 29 => 9 | 3 => 3 | 32 => 77 | 26 => 32 | 0 => 0 | 44 => 140 | 46 => 138 | 4 => 4 | 36 => 156 | 35 => 155 | 41 => 99 | 5 => 5 | 9 => 9 | 53 => 173 | 57 => 177 | 63 => 185 | 64 => 186 | n => n, fun | n => n⟩
theorem Tryz.laysSlM6_f60 : Go.Proofs.SlLaysM.n6 Tryz.prog Tryz.laysSlM6_f60_ren := {
  mixed := by kernel_rfl
  f6 := ⟨Tryz.f60.name, by decide, Tryz.func60.trans (congrArg some (by kernel_rfl))⟩
  f8 := Tryz.func81.trans (congrArg some (by kernel_rfl))
  f9 := ⟨Tryz.f80.name, by decide, Tryz.func80.trans (congrArg some (by kernel_rfl))⟩
  f19 := Tryz.func101.trans (congrArg some (by kernel_rfl))
  f20 := Tryz.func102.trans (congrArg some (by kernel_rfl))
  f21 := ⟨Tryz.f93.name, by decide, Tryz.func93.trans (congrArg some (by kernel_rfl))⟩
  f22 := ⟨Tryz.f94.name, by decide, Tryz.func94.trans (congrArg some (by kernel_rfl))⟩
  f23 := ⟨Tryz.f95.name, by decide, Tryz.func95.trans (congrArg some (by kernel_rfl))⟩
  f24 := ⟨Tryz.f96.name, by decide, Tryz.func96.trans (congrArg some (by kernel_rfl))⟩
  f25 := ⟨Tryz.f97.name, by decide, Tryz.func97.trans (congrArg some (by kernel_rfl))⟩
  f26 := ⟨Tryz.f98.name, by decide, Tryz.func98.trans (congrArg some (by kernel_rfl))⟩
  f27 := ⟨Tryz.f64.name, by decide, Tryz.func64.trans (congrArg some (by kernel_rfl))⟩
  f28 := ⟨Tryz.f99.name, by decide, Tryz.func99.trans (congrArg some (by kernel_rfl))⟩
  f29 := ⟨Tryz.f100.name, by decide, Tryz.func100.trans (congrArg some (by kernel_rfl))⟩
  f31 := Tryz.func118.trans (congrArg some (by kernel_rfl))
  f32 := Tryz.func119.trans (congrArg some (by kernel_rfl))
  f36 := ⟨Tryz.f117.name, by decide, Tryz.func117.trans (congrArg some (by kernel_rfl))⟩
  f37 := ⟨Tryz.f120.name, by decide, Tryz.func120.trans (congrArg some (by kernel_rfl))⟩
  f38 := ⟨Tryz.f121.name, by decide, Tryz.func121.trans (congrArg some (by kernel_rfl))⟩
  f39 := ⟨Tryz.f87.name, by decide, Tryz.func87.trans (congrArg some (by kernel_rfl))⟩
  f41 := ⟨Tryz.f134.name, by decide, Tryz.func134.trans (congrArg some (by kernel_rfl))⟩
  t0 := Tryz.underlying0
  a0 := Tryz.isAgg0
  z0 := Tryz.sizeOf0
  v0 := Tryz.zeroValue0
  t3 := Tryz.underlying3
  a3 := Tryz.isAgg3
  z3 := Tryz.sizeOf3
  v3 := Tryz.zeroValue3
  t4 := Tryz.underlying4
  a4 := Tryz.isAgg4
  z4 := Tryz.sizeOf4
  v4 := Tryz.zeroValue4
  t5 := Tryz.underlying5
  a5 := Tryz.isAgg5
  z5 := Tryz.sizeOf5
  v5 := Tryz.zeroValue5
  t9 := Tryz.underlying9
  a9 := Tryz.isAgg9
  z9 := Tryz.sizeOf9
  v9 := Tryz.zeroValue9
  t26 := Tryz.underlying32
  a26 := Tryz.isAgg32
  z26 := Tryz.sizeOf32
  v26 := Tryz.zeroValue32
  t27 := Tryz.underlying32
  a27 := Tryz.isAgg32
  z27 := Tryz.sizeOf32
  v27 := Tryz.zeroValue32
  t29 := Tryz.underlying9
  a29 := Tryz.isAgg9
  z29 := Tryz.sizeOf9
  v29 := Tryz.zeroValue9
  t32 := Tryz.underlying77
  a32 := Tryz.isAgg77
  z32 := Tryz.sizeOf77
  v32 := Tryz.zeroValue77
  t35 := Tryz.underlying155
  a35 := Tryz.isAgg155
  z35 := Tryz.sizeOf155
  v35 := Tryz.zeroValue155
  t36 := Tryz.underlying156
  a36 := Tryz.isAgg156
  z36 := Tryz.sizeOf156
  v36 := Tryz.zeroValue156
  t41 := Tryz.underlying99
  a41 := Tryz.isAgg99
  z41 := Tryz.sizeOf99
  v41 := Tryz.zeroValue99
  t44 := Tryz.underlying140
  a44 := Tryz.isAgg140
  z44 := Tryz.sizeOf140
  v44 := Tryz.zeroValue140
  t46 := Tryz.underlying138
  a46 := Tryz.isAgg138
  z46 := Tryz.sizeOf138
  v46 := Tryz.zeroValue138
  t53 := Tryz.underlying173
  a53 := Tryz.isAgg173
  z53 := Tryz.sizeOf173
  v53 := Tryz.zeroValue173
  t57 := Tryz.underlying177
  a57 := Tryz.isAgg177
  z57 := Tryz.sizeOf177
  v57 := Tryz.zeroValue177
  t63 := Tryz.underlying185
  a63 := Tryz.isAgg185
  z63 := Tryz.sizeOf185
  v63 := Tryz.zeroValue185
  t64 := Tryz.underlying186
  a64 := Tryz.isAgg186
  z64 := Tryz.sizeOf186
  v64 := Tryz.zeroValue186 }
open Go.Sort Go.RowKit in
theorem Tryz.slices_Sort_string (blk off cap : Nat) (ss : List (List UInt8)) (w : World) (hH : Holds encStr w blk off ss.toArray) (hblk : blk < w.heap.size) (hsz : ss.length < 4611686018427387904) :
    Calls Tryz.prog 60 #[.slice (some ⟨blk, off, none⟩) ss.length cap] w fun e w' =>
      e = .returned (.tuple #[]) ∧ ∃ n os, w' = grow (putRow encStr (Sort.ahead w n) blk off (ss.mergeSort fun x y => decide (x ≤ y)).toArray) os := AnyM.slices_Sort_string Tryz.laysSlM6_f60 blk off cap ss w hH hblk hsz
open Go.RowKit Go.Sort in
/-- .. and plain. (LAID AT THE INSTANCE 'slices.Sort[[]string,string]': no walk: one application.) -/
theorem Tryz.slices_Sort_string_none (p : Option Addr) (cap : Nat) (w : World) :
    Calls Tryz.prog 60 #[.slice p 0 cap] w fun e w' => e = .returned (.tuple #[]) ∧ w' = w := AnyM.slices_Sort_string_none Tryz.laysSlM6_f60 p cap w
end Go.Proofs
namespace Go.Proofs.YtihanglnjghcfaaGreatDoor
open Go.RowKit Go.Maps Go.Sort
set_option linter.unusedVariables false
set_option linter.unusedSimpArgs false

theorem putRow_owns {w : World} {B blk off cap : Nat} {e : TypeId} {P Q : List Gid} (h : OwnS w B e 1 (.slice (some ⟨blk, off, none⟩) P.length cap) P.length (strVs P)) (hq : Q.length = P.length) :
    OwnS (putRow encStr w blk off Q.toArray) B e 1 (.slice (some ⟨blk, off, none⟩) Q.length cap) Q.length (strVs Q) := by
  refine ⟨by simp [strVs], ?_⟩
  rcases h.2 with ⟨hv, _⟩ | ⟨g, o, c', cur, hv, hb, ⟨fr, hg, hf⟩, hn, hm, hs, ht⟩
  · cases hv
  · injection hv with hA _ hc
    injection hA with hA
    injection hA with h1 h2
    subst h1; subst h2; subst hc
    refine .inr ⟨blk, off, cap, putCells encStr off Q.toArray cur, rfl, hb, ⟨fr, ?_, ?_⟩, by rw [hq]; exact hn, hm, ?_, ?_⟩
    · simp [putRow, mapBlock, Array.getElem?_modify, hg, onCells]
    · unfold putCells; rw [Array.size_mapIdx]; exact hf
    · unfold putCells; rw [Array.size_mapIdx]; exact hs
    · apply List.ext_getElem?
      intro i
      have hsz : off + P.length ≤ cur.size := by omega
      rw [List.getElem?_take, List.getElem?_drop, Array.getElem?_toList]
      unfold putCells strVs
      rw [Array.getElem?_mapIdx, List.getElem?_map]
      by_cases hi : i < Q.length * 1
      · rw [if_pos hi, Array.getElem?_eq_getElem (show off + i < cur.size by omega), Option.map_some, if_pos ⟨by omega, by simp; omega⟩, show off + i - off = i by omega, List.getElem?_eq_getElem (show i < Q.length by omega)]
        simp only [Option.map_some]
        congr 1
        have : (Q.toArray)[i]! = Q[i] := by rw [getElem!_pos _ _ (by simp; omega)]; simp
        rw [this]
        rfl
      · rw [if_neg hi, List.getElem?_eq_none (by omega)]; rfl
set_option maxRecDepth 100000 in
/-- slices.Sort of a row of texts. -/
theorem sortsS : SortsS := by
  intro w B A n c P h hn
  have hl := h.strs
  subst hl
  by_cases h0 : P.length = 0
  · have hP : P = [] := List.length_eq_zero_iff.1 h0
    subst hP
    refine (Tryz.slices_Sort_string_none A c w).mono ?_
    rintro e w' ⟨rfl, rfl⟩
    exact ⟨rfl, by unfold sortG; simpa using h, Chg.refl _ _⟩
  · obtain ⟨blk, off, c', hv, hb, hlt, hcl⟩ := h.cells (by simp [strVs]; omega)
    injection hv with hA _ hc
    subst hA; subst hc
    have hH : Holds encStr w blk off P.toArray := fun j hj => by
      have hj2 : j < P.length := by simpa using hj
      refine ⟨?_, (h.free (j := j) (by simp [strVs]; exact hj2)).1⟩
      rw [hcl j (by simp [strVs]; exact hj2)]
      unfold strVs
      rw [List.getElem?_map, List.getElem?_eq_getElem hj2, Option.map_some]
      have : (P.toArray)[j]! = P[j] := by rw [getElem!_pos P.toArray j (by simpa using hj2)]; simp
      rw [this]
      rfl
    refine (Tryz.slices_Sort_string blk off c P w hH hlt (by omega)).mono ?_
    rintro e w' ⟨rfl, m, os, rfl⟩
    have hq := sortG_len P
    have h1 : OwnS (putRow encStr (Go.Sort.ahead w m) blk off (sortG P).toArray) B 9 1 (.slice (some ⟨blk, off, none⟩) (sortG P).length c) (sortG P).length (strVs (sortG P)) := putRow_owns (w := Go.Sort.ahead w m) (h.heap fun _ _ => rfl) hq
    rw [hq] at h1
    have hbk : ∀ k, k < w.heap.size → (grow (putRow encStr (Go.Sort.ahead w m) blk off (sortG P).toArray) os).heap[k]? = (putRow encStr (Go.Sort.ahead w m) blk off (sortG P).toArray).heap[k]? := fun k hk => by
      unfold grow
      rw [Array.getElem?_append_left (by simp [putRow, mapBlock]; exact hk)]
    refine ⟨rfl, h1.heap fun k hk => hbk k (by have := (h1.lt k hk).2; simpa [putRow, mapBlock] using this), ?_⟩
    refine ⟨rfl, rfl, rfl, by simp [grow, putRow, mapBlock], fun k hk hn => ?_⟩
    refine (hbk k hk).trans ?_
    have hne : blk ≠ k := fun e => hn (by subst e; rfl)
    simp [putRow, mapBlock, Array.getElem?_modify, hne]
end Go.Proofs.YtihanglnjghcfaaGreatDoor
namespace Go.Proofs.YtihanglnjghcfaaGreatDoor
open Go.Maps Go.WideShapes
set_option linter.unusedVariables false
set_option linter.unusedSimpArgs false

abbrev Txt := List UInt8
/-- Texts that rise. -/
def Rise (l : List Txt) : Prop := l.Pairwise fun a b => bytesBefore a b = true
def putS (s : Txt) : List Txt → List Txt
  | [] => [s]
  | y :: r => if bytesBefore s y then s :: y :: r else if y = s then y :: r else y :: putS s r
theorem putS_mem {s x : Txt} : ∀ {l : List Txt}, x ∈ putS s l ↔ x = s ∨ x ∈ l
  | [] => by simp [putS]
  | y :: r => by
    unfold putS
    split
    · simp
    · split
      · rename_i h
        subst h
        simp
      · rw [List.mem_cons, putS_mem, List.mem_cons]
        constructor
        · rintro (h | h | h) <;> simp [h]
        · rintro (h | h | h) <;> simp [h]
theorem putS_rise {s : Txt} : ∀ {l : List Txt}, Rise l → Rise (putS s l)
  | [], _ => List.pairwise_singleton _ _
  | y :: r, h => by
    obtain ⟨h1, h2⟩ := List.pairwise_cons.1 h
    unfold putS
    split
    · rename_i hb
      refine List.pairwise_cons.2 ⟨fun q hq => ?_, h⟩
      rcases List.mem_cons.1 hq with rfl | hq
      · exact hb
      · exact bytes_trans _ _ _ hb (h1 q hq)
    · split
      · exact h
      · rename_i hb he
        refine List.pairwise_cons.2 ⟨fun q hq => ?_, putS_rise h2⟩
        rcases putS_mem.1 hq with rfl | hq
        · rcases WideAt.bytes_total y q he with h' | h'
          · exact h'
          · exact absurd h' hb
        · exact h1 q hq
theorem rise_ext {l m : List Txt} (hl : Rise l) (hm : Rise m) (h : ∀ p, p ∈ l ↔ p ∈ m) : l = m := by
  induction l generalizing m with
  | nil =>
    cases m with
    | nil => rfl
    | cons b s => exact absurd ((h b).2 (by simp)) (by simp)
  | cons a r ih =>
    cases m with
    | nil => exact absurd ((h a).1 (by simp)) (by simp)
    | cons b s =>
      obtain ⟨a1, a2⟩ := List.pairwise_cons.1 hl
      obtain ⟨b1, b2⟩ := List.pairwise_cons.1 hm
      have hab : a = b := by
        rcases List.mem_cons.1 ((h a).1 (by simp)) with e | ha
        · exact e
        · rcases List.mem_cons.1 ((h b).2 (by simp)) with e | hb
          · exact e.symm
          · have := bytes_trans _ _ _ (a1 b hb) (b1 a ha)
            rw [WideAt.bytes_irrefl] at this
            cases this
      subst hab
      rw [ih a2 b2 (fun p => ⟨fun hp => by
        rcases List.mem_cons.1 ((h p).1 (by simp [hp])) with e | hp'
        · have := a1 p hp; rw [e, WideAt.bytes_irrefl] at this; cases this
        · exact hp', fun hp => by
        rcases List.mem_cons.1 ((h p).2 (by simp [hp])) with e | hp'
        · have := b1 p hp; rw [e, WideAt.bytes_irrefl] at this; cases this
        · exact hp'⟩)]
/-- All of them put. -/
def putAllS : List Txt → List Txt → List Txt
  | out, [] => out
  | out, s :: r => putAllS (putS s out) r
theorem putAllS_mem {x : Txt} : ∀ (l out : List Txt), x ∈ putAllS out l ↔ x ∈ l ∨ x ∈ out
  | [], out => by simp [putAllS]
  | s :: r, out => by
    unfold putAllS
    rw [putAllS_mem r, putS_mem, List.mem_cons]
    constructor
    · rintro (h | h | h) <;> simp [h]
    · rintro ((h | h) | h) <;> simp [h]
theorem putAllS_rise : ∀ (l out : List Txt), Rise out → Rise (putAllS out l)
  | [], out, h => h
  | s :: r, out, h => putAllS_rise r _ (putS_rise h)
/-- Unlike texts in order are what putting them one by one makes. -/
theorem sorted_put {l m : List Txt} (hp : ∀ x, x ∈ m ↔ x ∈ l) (hm : Rise m) : m = putAllS [] l :=
  rise_ext hm (putAllS_rise l [] List.Pairwise.nil) fun x => by rw [hp, putAllS_mem]; simp
/-- Put, the document's way: what lies ahead, the text, what lies behind. -/
theorem putS_is {l : List Txt} (hu : Rise l) {s : Txt} {k k' : Nat} (hk : k ≤ l.length) (h1 : ∀ p ∈ l.take k, bytesBefore p s = true) (h2 : ∀ p, l[k]? = some p → bytesBefore p s = false)
    (h3 : (k' = k + 1 ∧ l[k]? = some s) ∨ (k' = k ∧ ∀ p, l[k]? = some p → p ≠ s)) : putS s l = l.take k ++ [s] ++ l.drop k' := by
  induction l generalizing k k' with
  | nil =>
    have : k = 0 := by simpa using hk
    subst this
    rcases h3 with ⟨_, h⟩ | ⟨rfl, _⟩
    · simp at h
    · rfl
  | cons y r ih =>
    cases k with
    | zero =>
      have hb : bytesBefore y s = false := h2 y rfl
      rcases h3 with ⟨rfl, h⟩ | ⟨rfl, h⟩
      · simp at h
        subst h
        unfold putS
        rw [if_neg (by rw [hb]; decide), if_pos rfl]
        rfl
      · have hne : y ≠ s := h y rfl
        have : bytesBefore s y = true := by
          rcases WideAt.bytes_total y s hne with h' | h'
          · rw [hb] at h'; cases h'
          · exact h'
        unfold putS
        rw [if_pos this]
        rfl
    | succ k =>
      have hy : bytesBefore y s = true := h1 y (by simp)
      have hns : bytesBefore s y = false := by
        cases h : bytesBefore s y with
        | false => rfl
        | true =>
          have := bytes_trans _ _ _ hy h
          rw [WideAt.bytes_irrefl] at this
          cases this
      have hne : y ≠ s := fun e => by rw [e, WideAt.bytes_irrefl] at hy; cases hy
      unfold putS
      rw [if_neg (by rw [hns]; decide), if_neg hne]
      have hr := (List.pairwise_cons.1 hu).2
      obtain ⟨k'', rfl⟩ : ∃ k'', k' = k'' + 1 := by
        rcases h3 with ⟨rfl, _⟩ | ⟨rfl, _⟩
        · exact ⟨_, rfl⟩
        · exact ⟨_, rfl⟩
      have := ih (k := k) (k' := k'') hr (by simpa using hk) (fun p hp => h1 p (by simp [hp])) (fun p hp => h2 p (by simpa using hp)) (by
        rcases h3 with ⟨h, hh⟩ | ⟨h, hh⟩
        · exact .inl ⟨by omega, by simpa using hh⟩
        · exact .inr ⟨by omega, fun p hp => hh p (by simpa using hp)⟩)
      rw [this]
      rfl
end Go.Proofs.YtihanglnjghcfaaGreatDoor
namespace Go.Proofs.YtihanglnjghcfaaGreatDoor
open Go.RowKit Go.Maps
set_option linter.unusedVariables false
set_option linter.unusedSimpArgs false

def atD (l : List Git) (d : Gid) : Int := match atG l d with | none => -1 | some i => (i : Int)
theorem atG_first {l : List Git} {d : Gid} {i : Nat} {x : Git} (h : ∀ j y, j < i → l[j]? = some y → y.id ≠ d) (hx : l[i]? = some x) (he : x.id = d) : atG l d = some i := by
  unfold atG
  obtain ⟨hi, hxe⟩ := List.getElem?_eq_some_iff.1 hx
  rw [List.findIdx?_eq_some_iff_getElem]
  refine ⟨hi, by rw [hxe]; simpa using he, fun j hj => ?_⟩
  have := h j l[j] hj (List.getElem?_eq_getElem (by omega))
  simpa using this
set_option maxRecDepth 100000 in
set_option maxHeartbeats 2000000 in
theorem rat_any (w : World) (B : Nat) (A : Option Addr) (n c : Nat) (l : List Git) (d : Gid) (h : OwnS w B 89 2 (.slice A n c) n (l.flatMap itV)) (hl : l.length = n) (hn : n ≤ 1073741824) :
    Calls Tryz.prog 39 #[.slice A n c, .string (bk d)] w fun e w' => e = .returned (.int .i64 (atD l d)) ∧ w' = w := by
  have hG : Hid (∀ (i : Nat) (x : Git), l[i]? = some x → ∃ b o, A = some ⟨b, o, none⟩ ∧ w.cell? ⟨b, o + i * 2, none⟩ = some (.string (bk x.id))) := Lib.hid (fun i x hx => by
    obtain ⟨b, o, h1, _, _, h2⟩ := OwnS.flat itV_len (by decide) h hx
    exact ⟨b, o, h1, h2 0 (by decide)⟩)
  have HL := Lib.hid (And.intro hl hn)
  clear h hl hn
  go_enter Tryz.func39, Tryz.ntmps39
  go_wp2
  go_loopw [5] (fun vn wr => ∃ i : Nat, vn = .int .i64 i ∧ i ≤ n ∧ wr = w ∧ ∀ j x, j < i → l[j]? = some x → x.id ≠ d) (fun vn _ => n - (intOf vn).toNat)
  case atStart => exact ⟨0, rfl, by omega, rfl, fun j x h => absurd h (by omega)⟩
  case round =>
    obtain ⟨i, rfl, hi, rfl, hno⟩ := hrel
    have HNO := Lib.hid hno
    clear hno
    by_cases hlt : i < n
    · have d1 : decide ((i : Int) < (n : Int)) = true := decide_eq_true (by omega)
      have d1' : decide (i < n) = true := decide_eq_true hlt
      obtain ⟨x, hx⟩ : ∃ x, l[i]? = some x := ⟨_, List.getElem?_eq_getElem (by rw [HL.out.1]; exact hlt)⟩
      obtain ⟨b, o, hA, f0⟩ := hG.out i x hx
      subst hA
      have HX := Lib.hid hx
      have hle : ¬ (n : Int) ≤ i := by omega
      have hn0 : (0 : Int) ≤ i := by omega
      have hnl : (i : Int) < n := by omega
      clear hx
      by_cases he : x.id = d
      · have q1 : ((bk x.id).toList == (bk d).toList) = true := by rw [he]; simp
        have HRR : Hid (atD l d = (i : Int)) := Lib.hid (by unfold atD; rw [atG_first HNO.out HX.out he])
        clear he
        go_wp2
        go_ret
        exact ⟨by rw [HRR.out]; rfl, by first | rfl | trivial⟩
      · have q1 : ((bk x.id).toList == (bk d).toList) = false := by rw [Lib.toList_data, Lib.toList_data, bk_list, bk_list, beq_eq_false_iff_ne]; exact he
        have HNX : Hid (∀ j y, j < i + 1 → l[j]? = some y → y.id ≠ d) := Lib.hid (fun j y hj hy => by
          rcases Nat.lt_or_ge j i with h | h
          · exact HNO.out j y h hy
          · obtain rfl : j = i := by omega
            rw [HX.out] at hy
            injection hy with hy
            rw [← hy]; exact he)
        have hw : IntKind.i64.wrap ((i : Int) + 1) = (i : Int) + 1 := IntWalk.i64_in _ (by have := HL.out; omega)
        clear he
        go_wp2
        go_roundw
        case rel => exact ⟨i + 1, rfl, hlt, by first | rfl | trivial, HNX.out⟩
        case measure => simp [intOf]; omega
    · have d1 : decide ((i : Int) < (n : Int)) = false := decide_eq_false (by omega)
      have d1' : decide (i < n) = false := decide_eq_false hlt
      have HRR : Hid (atD l d = -1) := Lib.hid (by
        unfold atD
        rw [atG_none.2 fun x hx => by
          obtain ⟨j, hj⟩ := List.mem_iff_getElem?.1 hx
          exact HNO.out j x (by have := (List.getElem?_eq_some_iff.1 hj).1; have := HL.out; omega) hj])
      clear hi hlt
      go_wp2
      go_ret
      exact ⟨by rw [HRR.out]; rfl, by first | rfl | trivial⟩
end Go.Proofs.YtihanglnjghcfaaGreatDoor
namespace Go.Proofs.YtihanglnjghcfaaGreatDoor
open Go.RowKit Go.Maps
set_option linter.unusedVariables false
set_option linter.unusedSimpArgs false

theorem less_beforeG : ∀ a b : List UInt8, Op.bytesLess a b = bytesBefore a b
  | [], [] => rfl
  | _ :: _, [] => rfl
  | [], _ :: _ => rfl
  | a :: x, b :: y => by
    show (_ || (_ && Op.bytesLess x y)) = (_ || (_ && bytesBefore x y))
    rw [less_beforeG x y]
theorem less_bk (p s : Gid) : Op.bytesLess (bk p).toList (bk s).toList = bytesBefore p s := by rw [less_beforeG, Lib.toList_data, Lib.toList_data, bk_list, bk_list]
theorem eq_bk (p s : Gid) : ((bk p).toList == (bk s).toList) = (p == s) := by rw [Lib.toList_data, Lib.toList_data, bk_list, bk_list]
theorem strVs_app (a b : List Gid) : strVs (a ++ b) = strVs a ++ strVs b := by unfold strVs; rw [List.map_append]
theorem strVs_len (a : List Gid) : (strVs a).length = a.length := by unfold strVs; rw [List.length_map]
theorem src_noS {P : Program} {w : World} {A : Option Addr} {m c : Nat} {l : List Gid} (hm : m = 0) (hl : l = []) : Src P w 1 (.slice A m c) m (strVs l) := by
  subst hm; subst hl
  exact Src.vals rfl (by simp [strVs]) (fun h => absurd h (by simp [strVs]))
theorem src_tlS {P : Program} {w : World} {B b o n c c' m k : Nat} {l : List Gid} (h : OwnS w B 9 1 (.slice (some ⟨b, o, none⟩) n c) n (strVs l)) (hn : l.length = n) (hk : k ≤ n) (hm : m = n - k) : Src P w 1 (.slice (some ⟨b, o + k, none⟩) m c') m (strVs (l.drop k)) := by
  refine Src.vals (by rw [strVs_len, List.length_drop, hm, hn]; omega) (strVs_one _) fun hl => ⟨_, rfl, fun j u hj => ?_⟩
  have he : strVs (l.drop k) = (strVs l).drop k := by unfold strVs; rw [List.map_drop]
  rw [he, List.getElem?_drop] at hj
  obtain ⟨g, off, c2, hv, _, _, hc⟩ := h.cells (by rw [strVs_len]; rw [strVs_len, List.length_drop] at hl; omega)
  injection hv with hA _ _
  injection hA with hA
  injection hA with h1 h2 _
  subst h1; subst h2
  rw [Addr.add_lit, Nat.add_assoc, hc _ (List.getElem?_eq_some_iff.1 hj).1]
  exact hj
theorem OwnS.strOf {w : World} {B n c : Nat} {A : Option Addr} {xs : List Value} {L : List Gid} (h : OwnS w B 9 1 (.slice A n c) n xs) (hx : xs = strVs L) : n = L.length ∧ OwnS w B 9 1 (.slice A L.length c) L.length (strVs L) := by
  subst hx
  have h1 := h.1
  rw [strVs_len] at h1
  have : n = L.length := by omega
  subst this
  exact ⟨rfl, h⟩
theorem OwnS.low {w : World} {B n : Nat} {e : TypeId} {size : Nat} {v : Value} {xs : List Value} (h : OwnS w B e size v n xs) (W : World) (hb : Below w.heap.size w W) : OwnS W B e size v n xs :=
  h.chg (S := fun _ => False) (Chg.of_below hb) fun _ _ h => h
def RPut (L : List Gid) (w : World) (e : Ending) (w' : World) : Prop := Below w.heap.size w w' ∧ ∃ A c, e = .returned (.slice A L.length c) ∧ OwnS w' w.heap.size 9 1 (.slice A L.length c) L.length (strVs L)
set_option maxRecDepth 100000 in
set_option maxHeartbeats 4000000 in
theorem rput_any (w : World) (B : Nat) (A : Option Addr) (n c : Nat) (l : List Gid) (s : Gid) (h : OwnS w B 9 1 (.slice A n c) n (strVs l)) (hl : l.length = n) (hu : Rise l) (hn : n ≤ 1073741824) :
    Calls Tryz.prog 40 #[.slice A n c, .string (bk s)] w (RPut (putS s l) w) := by
  have HPO : Hid (∀ e w', RPut (putS s l) w e w' = (Below w.heap.size w w' ∧ ∃ A c, e = .returned (.slice A (putS s l).length c) ∧ OwnS w' w.heap.size 9 1 (.slice A (putS s l).length c) (putS s l).length (strVs (putS s l)))) := Lib.hid (fun _ _ => rfl)
  generalize RPut (putS s l) w = POST at *
  obtain ⟨i0, hi, hz0, hz1, hz2⟩ := info_parts info_str1
  have H := Lib.hid h
  have HU := Lib.hid hu
  have HN := Lib.hid (And.intro hl hn)
  have HCAP : Hid (n ≤ c) := Lib.hid h.cap
  have HCASE : Hid ((A = none ∧ n = 0 ∧ c = 0) ∨ ∃ b o, A = some ⟨b, o, none⟩) := Lib.hid (by
    rcases h.2 with ⟨hv, _⟩ | ⟨g, off, cap, cur, hv, _⟩
    · injection hv with h1 h2 h3; exact .inl ⟨h1, h2, h3⟩
    · injection hv with h1; exact .inr ⟨g, off, h1⟩)
  have hG : Hid (∀ (i : Nat) (x : Gid), l[i]? = some x → ∃ b o, A = some ⟨b, o, none⟩ ∧ b < w.heap.size ∧ w.cell? ⟨b, o + i, none⟩ = some (.string (bk x))) := Lib.hid (fun i x hx => by
    have hS := h.strsAt
    obtain ⟨b, o, h1, h2, h3⟩ := hS (by rw [List.length_map]; exact Nat.lt_of_le_of_lt (Nat.zero_le i) (List.getElem?_eq_some_iff.1 hx).1)
    exact ⟨b, o, h1, h2, h3 i (bk x) (by rw [List.getElem?_map, hx]; rfl)⟩)
  clear h hl hu
  go_enter Tryz.func40, Tryz.ntmps40
  go_wp2
  go_loopw [6, 5] (fun v6 v5 wr => ∃ (k : Nat) (A2 : Option Addr) (c2 : Nat), v6 = .int .i64 (k : Int) ∧ v5 = .slice A2 k c2 ∧ k ≤ n ∧ OwnS wr w.heap.size 9 1 (.slice A2 k c2) k (strVs (l.take k)) ∧ Below w.heap.size w wr ∧ ∀ p ∈ l.take k, bytesBefore p s = true) (fun v6 _ _ => n - (intOf v6).toNat)
  case atStart => exact ⟨0, none, 0, rfl, rfl, Nat.zero_le _, OwnS.nil _ _ _ _, Below.refl _ _, by simp⟩
  case round =>
    obtain ⟨k, A2, c2, rfl, rfl, hk, ho, hb, hlow⟩ := hrel
    have HO := Lib.hid ho
    have HB := Lib.hid hb
    have HL := Lib.hid hlow
    clear ho hb hlow
    by_cases hlt : k < n
    · obtain ⟨p, hp⟩ : ∃ p, l[k]? = some p := ⟨_, List.getElem?_eq_getElem (by rw [HN.out.1]; exact hlt)⟩
      obtain ⟨b, o, rfl, hbl, hc0⟩ := hG.out k p hp
      have hc1 : wr.cell? ⟨b, o + k, none⟩ = some (.string (bk p)) := (HB.out.cell (p := ⟨b, o + k, none⟩) hbl).trans hc0
      have hc9 : Hid (∀ W, Below w.heap.size w W → W.cell? ⟨b, o + k, none⟩ = some (.string (bk p))) := Lib.hid (fun W hb => (hb.cell (p := ⟨b, o + k, none⟩) hbl).trans hc0)
      have d0 : decide ((k : Int) < (n : Int)) = true := decide_eq_true (by omega)
      have d0' : decide (k < n) = true := decide_eq_true hlt
      have hle : ¬ (n : Int) ≤ k := by omega
      have hn0 : (0 : Int) ≤ k := by omega
      have hnl : (k : Int) < n := by omega
      have hwr : IntKind.i64.wrap ((k : Int) + 1) = (k : Int) + 1 := IntWalk.i64_in _ (by have := HN.out; omega)
      have HP := Lib.hid hp
      clear hc0
      cases hbf : bytesBefore p s
      · by_cases he : p = s
        · have HIS := Lib.hid (putS_is (s := s) (k' := k + 1) HU.out (by rw [HN.out.1]; exact hk) HL.out (fun y hy => by rw [hp] at hy; rw [← Option.some.inj hy]; exact hbf) (.inl ⟨rfl, by rw [hp, he]⟩))
          have q1 : Op.bytesLess (bk p).toList (bk s).toList = false := by rw [less_bk, hbf]
          have q2 : ((bk p).toList == (bk s).toList) = true := by rw [eq_bk, beq_iff_eq]; exact he
          clear hbf he hp
          by_cases hck : c = (k + 1)
          · have HSR : Hid (∀ W : World, Below w.heap.size w W → Src Tryz.prog W 1 (.slice (some ⟨b, o, none⟩) (n - (k + 1)) 0) (n - (k + 1)) (strVs (l.drop (k + 1)))) := Lib.hid (fun W hb => src_noS (by have := HCAP.out; omega) (List.drop_eq_nil_of_le (by have := HCAP.out; have := HN.out; omega)))
            have hck2 := hck.symm
            clear hck
            subst hck2
            have HOA := Lib.hid (HO.out.alloc (.cells #[.string (bk s)] 9))
            have HBA : Hid (Below w.heap.size w (wr.alloc (.cells #[.string (bk s)] 9))) := Lib.hid (HB.out.trans (((Below.refl _ _).alloc (Nat.le_refl _) _).mono HB.out.size))
            have HS1 := Lib.hid (Src.one_new (P := Tryz.prog) (w := wr) (u := .string (bk s)) (t := 9) rfl)
            have hm1 : k + 1 ≤ maxLen := by have := HN.out; unfold maxLen; omega
            have hb1 : (k + 1) * 16 ≤ 140737488355328 := by have := HN.out; omega
            have hm2 : k + 1 + (n - (k + 1)) ≤ maxLen := by have := HN.out; unfold maxLen; omega
            have hb2 : (k + 1 + (n - (k + 1))) * 16 ≤ 140737488355328 := by have := HN.out; omega
            clear HO HB
            go_upto_region 7 with (at_builtin; go_loud (refine wpList_append_S rfl (.tmp 28) (.tmp 30) 32 32 rfl i0 (.string ⟨#[]⟩) 16 (.slice 9) Tryz.underlying32 Tryz.underlying32 (fun _ h => by cases h) hi hz0 hz1 hz2 rfl rfl rfl HOA.out HS1.out hm1 hb1 HBA.out.size ?_; intro A8 c8 w8; intro ho8 hg8 hw8))
            have HO8 := Lib.hid ho8
            have HB8 := Lib.hid (HBA.out.grown hg8 HBA.out.size (fun j hj => (HOA.out.lt j hj).1))
            clear ho8 hg8 hw8 hm1 hb1
            have hcc := hc9.out w8 HB8.out
            go_wp2_with (at_builtin; go_loud (refine wpList_append_S rfl (.tmp 46) (.tmp 49) 32 32 rfl i0 (.string ⟨#[]⟩) 16 (.slice 9) Tryz.underlying32 Tryz.underlying32 (fun _ h => by cases h) hi hz0 hz1 hz2 rfl rfl rfl HO8.out (HSR.out _ HB8.out) hm2 hb2 HB8.out.size ?_; intro A9 c9 w9; generalize k + 1 + (n - (k + 1)) = n9 at *; intro ho9 hg9 hw9))
            have HB9 := Lib.hid (HB8.out.grown hg9 HB8.out.size (fun j hj => (HO8.out.lt j hj).1))
            have HO9 := Lib.hid (ho9.strOf (L := putS s l) (by rw [HIS.out, strVs_app, strVs_app]; rfl))
            clear ho9 hg9 hw9
            go_wp2
            rw [HPO.out]
            exact ⟨HB9.out, A9, c9, by first | (rw [← HO9.out.1]; done) | (rw [← HO9.out.1]; rfl), HO9.out.2⟩
          · have HSR : Hid (∀ W : World, Below w.heap.size w W → Src Tryz.prog W 1 (.slice (some ⟨b, o + (k + 1), none⟩) (n - (k + 1)) (c - (k + 1))) (n - (k + 1)) (strVs (l.drop (k + 1)))) := Lib.hid (fun W hb => src_tlS (H.out.low W hb) HN.out.1 (by omega) (by omega))
            have HOA := Lib.hid (HO.out.alloc (.cells #[.string (bk s)] 9))
            have HBA : Hid (Below w.heap.size w (wr.alloc (.cells #[.string (bk s)] 9))) := Lib.hid (HB.out.trans (((Below.refl _ _).alloc (Nat.le_refl _) _).mono HB.out.size))
            have HS1 := Lib.hid (Src.one_new (P := Tryz.prog) (w := wr) (u := .string (bk s)) (t := 9) rfl)
            have hm1 : k + 1 ≤ maxLen := by have := HN.out; unfold maxLen; omega
            have hb1 : (k + 1) * 16 ≤ 140737488355328 := by have := HN.out; omega
            have hm2 : k + 1 + (n - (k + 1)) ≤ maxLen := by have := HN.out; unfold maxLen; omega
            have hb2 : (k + 1 + (n - (k + 1))) * 16 ≤ 140737488355328 := by have := HN.out; omega
            clear HO HB
            go_upto_region 7 with (at_builtin; go_loud (refine wpList_append_S rfl (.tmp 28) (.tmp 30) 32 32 rfl i0 (.string ⟨#[]⟩) 16 (.slice 9) Tryz.underlying32 Tryz.underlying32 (fun _ h => by cases h) hi hz0 hz1 hz2 rfl rfl rfl HOA.out HS1.out hm1 hb1 HBA.out.size ?_; intro A8 c8 w8; intro ho8 hg8 hw8))
            have HO8 := Lib.hid ho8
            have HB8 := Lib.hid (HBA.out.grown hg8 HBA.out.size (fun j hj => (HOA.out.lt j hj).1))
            clear ho8 hg8 hw8 hm1 hb1
            have hcc := hc9.out w8 HB8.out
            go_wp2_with (at_builtin; go_loud (refine wpList_append_S rfl (.tmp 46) (.tmp 49) 32 32 rfl i0 (.string ⟨#[]⟩) 16 (.slice 9) Tryz.underlying32 Tryz.underlying32 (fun _ h => by cases h) hi hz0 hz1 hz2 rfl rfl rfl HO8.out (HSR.out _ HB8.out) hm2 hb2 HB8.out.size ?_; intro A9 c9 w9; generalize k + 1 + (n - (k + 1)) = n9 at *; intro ho9 hg9 hw9))
            have HB9 := Lib.hid (HB8.out.grown hg9 HB8.out.size (fun j hj => (HO8.out.lt j hj).1))
            have HO9 := Lib.hid (ho9.strOf (L := putS s l) (by rw [HIS.out, strVs_app, strVs_app]; rfl))
            clear ho9 hg9 hw9
            go_wp2
            rw [HPO.out]
            exact ⟨HB9.out, A9, c9, by first | (rw [← HO9.out.1]; done) | (rw [← HO9.out.1]; rfl), HO9.out.2⟩
        · have HIS := Lib.hid (putS_is (s := s) (k' := k) HU.out (by rw [HN.out.1]; exact hk) HL.out (fun y hy => by rw [hp] at hy; rw [← Option.some.inj hy]; exact hbf) (.inr ⟨rfl, fun y hy => by rw [hp] at hy; rw [← Option.some.inj hy]; exact he⟩))
          have q1 : Op.bytesLess (bk p).toList (bk s).toList = false := by rw [less_bk, hbf]
          have q2 : ((bk p).toList == (bk s).toList) = false := by rw [eq_bk, beq_eq_false_iff_ne]; exact he
          clear hbf he hp
          by_cases hck : c = k
          · have HSR : Hid (∀ W : World, Below w.heap.size w W → Src Tryz.prog W 1 (.slice (some ⟨b, o, none⟩) (n - k) 0) (n - k) (strVs (l.drop k))) := Lib.hid (fun W hb => src_noS (by have := HCAP.out; omega) (List.drop_eq_nil_of_le (by have := HCAP.out; have := HN.out; omega)))
            have hck2 := hck.symm
            clear hck
            subst hck2
            have HOA := Lib.hid (HO.out.alloc (.cells #[.string (bk s)] 9))
            have HBA : Hid (Below w.heap.size w (wr.alloc (.cells #[.string (bk s)] 9))) := Lib.hid (HB.out.trans (((Below.refl _ _).alloc (Nat.le_refl _) _).mono HB.out.size))
            have HS1 := Lib.hid (Src.one_new (P := Tryz.prog) (w := wr) (u := .string (bk s)) (t := 9) rfl)
            have hm1 : k + 1 ≤ maxLen := by have := HN.out; unfold maxLen; omega
            have hb1 : (k + 1) * 16 ≤ 140737488355328 := by have := HN.out; omega
            have hm2 : k + 1 + (n - k) ≤ maxLen := by have := HN.out; unfold maxLen; omega
            have hb2 : (k + 1 + (n - k)) * 16 ≤ 140737488355328 := by have := HN.out; omega
            clear HO HB
            go_upto_region 7 with (at_builtin; go_loud (refine wpList_append_S rfl (.tmp 28) (.tmp 30) 32 32 rfl i0 (.string ⟨#[]⟩) 16 (.slice 9) Tryz.underlying32 Tryz.underlying32 (fun _ h => by cases h) hi hz0 hz1 hz2 rfl rfl rfl HOA.out HS1.out hm1 hb1 HBA.out.size ?_; intro A8 c8 w8; intro ho8 hg8 hw8))
            have HO8 := Lib.hid ho8
            have HB8 := Lib.hid (HBA.out.grown hg8 HBA.out.size (fun j hj => (HOA.out.lt j hj).1))
            clear ho8 hg8 hw8 hm1 hb1
            have hcc := hc9.out w8 HB8.out
            go_wp2_with (at_builtin; go_loud (refine wpList_append_S rfl (.tmp 46) (.tmp 49) 32 32 rfl i0 (.string ⟨#[]⟩) 16 (.slice 9) Tryz.underlying32 Tryz.underlying32 (fun _ h => by cases h) hi hz0 hz1 hz2 rfl rfl rfl HO8.out (HSR.out _ HB8.out) hm2 hb2 HB8.out.size ?_; intro A9 c9 w9; generalize k + 1 + (n - k) = n9 at *; intro ho9 hg9 hw9))
            have HB9 := Lib.hid (HB8.out.grown hg9 HB8.out.size (fun j hj => (HO8.out.lt j hj).1))
            have HO9 := Lib.hid (ho9.strOf (L := putS s l) (by rw [HIS.out, strVs_app, strVs_app]; rfl))
            clear ho9 hg9 hw9
            go_wp2
            rw [HPO.out]
            exact ⟨HB9.out, A9, c9, by first | (rw [← HO9.out.1]; done) | (rw [← HO9.out.1]; rfl), HO9.out.2⟩
          · have HSR : Hid (∀ W : World, Below w.heap.size w W → Src Tryz.prog W 1 (.slice (some ⟨b, o + k, none⟩) (n - k) (c - k)) (n - k) (strVs (l.drop k))) := Lib.hid (fun W hb => src_tlS (H.out.low W hb) HN.out.1 (by omega) (by omega))
            have HOA := Lib.hid (HO.out.alloc (.cells #[.string (bk s)] 9))
            have HBA : Hid (Below w.heap.size w (wr.alloc (.cells #[.string (bk s)] 9))) := Lib.hid (HB.out.trans (((Below.refl _ _).alloc (Nat.le_refl _) _).mono HB.out.size))
            have HS1 := Lib.hid (Src.one_new (P := Tryz.prog) (w := wr) (u := .string (bk s)) (t := 9) rfl)
            have hm1 : k + 1 ≤ maxLen := by have := HN.out; unfold maxLen; omega
            have hb1 : (k + 1) * 16 ≤ 140737488355328 := by have := HN.out; omega
            have hm2 : k + 1 + (n - k) ≤ maxLen := by have := HN.out; unfold maxLen; omega
            have hb2 : (k + 1 + (n - k)) * 16 ≤ 140737488355328 := by have := HN.out; omega
            clear HO HB
            go_upto_region 7 with (at_builtin; go_loud (refine wpList_append_S rfl (.tmp 28) (.tmp 30) 32 32 rfl i0 (.string ⟨#[]⟩) 16 (.slice 9) Tryz.underlying32 Tryz.underlying32 (fun _ h => by cases h) hi hz0 hz1 hz2 rfl rfl rfl HOA.out HS1.out hm1 hb1 HBA.out.size ?_; intro A8 c8 w8; intro ho8 hg8 hw8))
            have HO8 := Lib.hid ho8
            have HB8 := Lib.hid (HBA.out.grown hg8 HBA.out.size (fun j hj => (HOA.out.lt j hj).1))
            clear ho8 hg8 hw8 hm1 hb1
            have hcc := hc9.out w8 HB8.out
            go_wp2_with (at_builtin; go_loud (refine wpList_append_S rfl (.tmp 46) (.tmp 49) 32 32 rfl i0 (.string ⟨#[]⟩) 16 (.slice 9) Tryz.underlying32 Tryz.underlying32 (fun _ h => by cases h) hi hz0 hz1 hz2 rfl rfl rfl HO8.out (HSR.out _ HB8.out) hm2 hb2 HB8.out.size ?_; intro A9 c9 w9; generalize k + 1 + (n - k) = n9 at *; intro ho9 hg9 hw9))
            have HB9 := Lib.hid (HB8.out.grown hg9 HB8.out.size (fun j hj => (HO8.out.lt j hj).1))
            have HO9 := Lib.hid (ho9.strOf (L := putS s l) (by rw [HIS.out, strVs_app, strVs_app]; rfl))
            clear ho9 hg9 hw9
            go_wp2
            rw [HPO.out]
            exact ⟨HB9.out, A9, c9, by first | (rw [← HO9.out.1]; done) | (rw [← HO9.out.1]; rfl), HO9.out.2⟩
      · have q1 : Op.bytesLess (bk p).toList (bk s).toList = true := by rw [less_bk, hbf]
        have HTK : Hid (strVs (l.take (k + 1)) = strVs (l.take k) ++ [.string (bk p)]) := Lib.hid (by unfold strVs; rw [List.take_add_one, hp, List.map_append]; rfl)
        have HL2 : Hid (∀ y ∈ l.take (k + 1), bytesBefore y s = true) := Lib.hid (fun y hy => by
          rw [List.take_add_one, hp] at hy
          rcases List.mem_append.1 hy with hy | hy
          · exact HL.out y hy
          · simp at hy; rw [hy]; exact hbf)
        have HOA := Lib.hid (HO.out.alloc (.cells #[.string (bk p)] 9))
        have HBA : Hid (Below w.heap.size w (wr.alloc (.cells #[.string (bk p)] 9))) := Lib.hid (HB.out.trans (((Below.refl _ _).alloc (Nat.le_refl _) _).mono HB.out.size))
        have HS1 := Lib.hid (Src.one_new (P := Tryz.prog) (w := wr) (u := .string (bk p)) (t := 9) rfl)
        have hm1 : k + 1 ≤ maxLen := by have := HN.out; unfold maxLen; omega
        have hb1 : (k + 1) * 16 ≤ 140737488355328 := by have := HN.out; omega
        clear HO HB hbf hp
        go_wp2_with (at_builtin; go_loud (refine wpList_append_S rfl (.tmp 19) (.tmp 24) 32 32 rfl i0 (.string ⟨#[]⟩) 16 (.slice 9) Tryz.underlying32 Tryz.underlying32 (fun _ h => by cases h) hi hz0 hz1 hz2 rfl rfl rfl HOA.out HS1.out hm1 hb1 HBA.out.size ?_; intro A8 c8 w8; generalize hnn : k + 1 = nn at *; intro ho8 hg8 hw8))
        have HO8 := Lib.hid ho8
        have HB8 := Lib.hid (HBA.out.grown hg8 HBA.out.size (fun j hj => (HOA.out.lt j hj).1))
        have HNN := Lib.hid hnn
        clear ho8 hg8 hw8 hm1 hb1 hnn
        go_wp2
        go_roundw
        case rel => exact ⟨nn, A8, c8, by rw [← HNN.out]; rfl, rfl, by have := HNN.out; omega, by rw [HTK.out]; exact HO8.out, HB8.out, HL2.out⟩
        case measure => have := HNN.out; simp [intOf]; omega
    · have d0 : decide ((k : Int) < (n : Int)) = false := decide_eq_false (by omega)
      have d0' : decide (k < n) = false := decide_eq_false hlt
      obtain rfl : k = n := by omega
      have HIS := Lib.hid (putS_is (s := s) (k := k) (k' := k) HU.out (by rw [HN.out.1]; exact hk) HL.out (fun y hy => by rw [List.getElem?_eq_none (by have := HN.out.1; omega)] at hy; cases hy) (.inr ⟨rfl, fun y hy => by rw [List.getElem?_eq_none (by have := HN.out.1; omega)] at hy; cases hy⟩))
      clear d0 d0' hlt
      have d0 : decide ((k : Int) < (k : Int)) = false := decide_eq_false (by omega)
      rcases HCASE.out with ⟨rfl, hn0, rfl⟩ | ⟨b, o, rfl⟩
      · subst hn0
        have HOA := Lib.hid (HO.out.alloc (.cells #[.string (bk s)] 9))
        have HBA : Hid (Below w.heap.size w (wr.alloc (.cells #[.string (bk s)] 9))) := Lib.hid (HB.out.trans (((Below.refl _ _).alloc (Nat.le_refl _) _).mono HB.out.size))
        have HS1 := Lib.hid (Src.one_new (P := Tryz.prog) (w := wr) (u := .string (bk s)) (t := 9) rfl)
        have hm1 : 0 + 1 ≤ maxLen := by have := HN.out; unfold maxLen; omega
        have hb1 : (0 + 1) * 16 ≤ 140737488355328 := by have := HN.out; omega
        have hm2 : 0 + 1 + (0) ≤ maxLen := by have := HN.out; unfold maxLen; omega
        have hb2 : (0 + 1 + (0)) * 16 ≤ 140737488355328 := by have := HN.out; omega
        have HSR : Hid (∀ W : World, Below w.heap.size w W → Src Tryz.prog W 1 (.slice none (0) 0) (0) (strVs (l.drop 0))) := Lib.hid (fun W hb => src_noS rfl (List.drop_eq_nil_of_le (by have := HN.out; omega)))
        clear HO HB
        go_upto_region 7 with (at_builtin; go_loud (refine wpList_append_S rfl (.tmp 28) (.tmp 30) 32 32 rfl i0 (.string ⟨#[]⟩) 16 (.slice 9) Tryz.underlying32 Tryz.underlying32 (fun _ h => by cases h) hi hz0 hz1 hz2 rfl rfl rfl HOA.out HS1.out hm1 hb1 HBA.out.size ?_; intro A8 c8 w8; intro ho8 hg8 hw8))
        have HO8 := Lib.hid ho8
        have HB8 := Lib.hid (HBA.out.grown hg8 HBA.out.size (fun j hj => (HOA.out.lt j hj).1))
        clear ho8 hg8 hw8 hm1 hb1
        go_wp2_with (at_builtin; go_loud (refine wpList_append_S rfl (.tmp 46) (.tmp 49) 32 32 rfl i0 (.string ⟨#[]⟩) 16 (.slice 9) Tryz.underlying32 Tryz.underlying32 (fun _ h => by cases h) hi hz0 hz1 hz2 rfl rfl rfl HO8.out (HSR.out _ HB8.out) hm2 hb2 HB8.out.size ?_; intro A9 c9 w9; intro ho9 hg9 hw9))
        have HB9 := Lib.hid (HB8.out.grown hg9 HB8.out.size (fun j hj => (HO8.out.lt j hj).1))
        have HO9 := Lib.hid (ho9.strOf (L := putS s l) (by rw [HIS.out, strVs_app, strVs_app]; rfl))
        clear ho9 hg9 hw9
        go_wp2
        rw [HPO.out]
        exact ⟨HB9.out, A9, c9, by first | (rw [← HO9.out.1]; done) | (rw [← HO9.out.1]; rfl), HO9.out.2⟩
      · have HZ : Hid (k ≤ c) := Lib.hid HCAP.out
        by_cases hck : c = k
        · have HSR : Hid (∀ W : World, Below w.heap.size w W → Src Tryz.prog W 1 (.slice (some ⟨b, o, none⟩) (0) 0) (0) (strVs (l.drop k))) := Lib.hid (fun W hb => src_noS (by have := HCAP.out; omega) (List.drop_eq_nil_of_le (by have := HCAP.out; have := HN.out; omega)))
          have hck2 := hck.symm
          clear hck
          subst hck2
          have HOA := Lib.hid (HO.out.alloc (.cells #[.string (bk s)] 9))
          have HBA : Hid (Below w.heap.size w (wr.alloc (.cells #[.string (bk s)] 9))) := Lib.hid (HB.out.trans (((Below.refl _ _).alloc (Nat.le_refl _) _).mono HB.out.size))
          have HS1 := Lib.hid (Src.one_new (P := Tryz.prog) (w := wr) (u := .string (bk s)) (t := 9) rfl)
          have hm1 : k + 1 ≤ maxLen := by have := HN.out; unfold maxLen; omega
          have hb1 : (k + 1) * 16 ≤ 140737488355328 := by have := HN.out; omega
          have hm2 : k + 1 + (0) ≤ maxLen := by have := HN.out; unfold maxLen; omega
          have hb2 : (k + 1 + (0)) * 16 ≤ 140737488355328 := by have := HN.out; omega
          clear HO HB
          go_upto_region 7 with (at_builtin; go_loud (refine wpList_append_S rfl (.tmp 28) (.tmp 30) 32 32 rfl i0 (.string ⟨#[]⟩) 16 (.slice 9) Tryz.underlying32 Tryz.underlying32 (fun _ h => by cases h) hi hz0 hz1 hz2 rfl rfl rfl HOA.out HS1.out hm1 hb1 HBA.out.size ?_; intro A8 c8 w8; intro ho8 hg8 hw8))
          have HO8 := Lib.hid ho8
          have HB8 := Lib.hid (HBA.out.grown hg8 HBA.out.size (fun j hj => (HOA.out.lt j hj).1))
          clear ho8 hg8 hw8 hm1 hb1
          go_wp2_with (at_builtin; go_loud (refine wpList_append_S rfl (.tmp 46) (.tmp 49) 32 32 rfl i0 (.string ⟨#[]⟩) 16 (.slice 9) Tryz.underlying32 Tryz.underlying32 (fun _ h => by cases h) hi hz0 hz1 hz2 rfl rfl rfl HO8.out (HSR.out _ HB8.out) hm2 hb2 HB8.out.size ?_; intro A9 c9 w9; generalize k + 1 + (0) = n9 at *; intro ho9 hg9 hw9))
          have HB9 := Lib.hid (HB8.out.grown hg9 HB8.out.size (fun j hj => (HO8.out.lt j hj).1))
          have HO9 := Lib.hid (ho9.strOf (L := putS s l) (by rw [HIS.out, strVs_app, strVs_app]; rfl))
          clear ho9 hg9 hw9
          go_wp2
          rw [HPO.out]
          exact ⟨HB9.out, A9, c9, by first | (rw [← HO9.out.1]; done) | (rw [← HO9.out.1]; rfl), HO9.out.2⟩
        · have HSR : Hid (∀ W : World, Below w.heap.size w W → Src Tryz.prog W 1 (.slice (some ⟨b, o + k, none⟩) (0) (c - k)) (0) (strVs (l.drop k))) := Lib.hid (fun W hb => src_tlS (H.out.low W hb) HN.out.1 (by omega) (by omega))
          have HOA := Lib.hid (HO.out.alloc (.cells #[.string (bk s)] 9))
          have HBA : Hid (Below w.heap.size w (wr.alloc (.cells #[.string (bk s)] 9))) := Lib.hid (HB.out.trans (((Below.refl _ _).alloc (Nat.le_refl _) _).mono HB.out.size))
          have HS1 := Lib.hid (Src.one_new (P := Tryz.prog) (w := wr) (u := .string (bk s)) (t := 9) rfl)
          have hm1 : k + 1 ≤ maxLen := by have := HN.out; unfold maxLen; omega
          have hb1 : (k + 1) * 16 ≤ 140737488355328 := by have := HN.out; omega
          have hm2 : k + 1 + (0) ≤ maxLen := by have := HN.out; unfold maxLen; omega
          have hb2 : (k + 1 + (0)) * 16 ≤ 140737488355328 := by have := HN.out; omega
          clear HO HB
          go_upto_region 7 with (at_builtin; go_loud (refine wpList_append_S rfl (.tmp 28) (.tmp 30) 32 32 rfl i0 (.string ⟨#[]⟩) 16 (.slice 9) Tryz.underlying32 Tryz.underlying32 (fun _ h => by cases h) hi hz0 hz1 hz2 rfl rfl rfl HOA.out HS1.out hm1 hb1 HBA.out.size ?_; intro A8 c8 w8; intro ho8 hg8 hw8))
          have HO8 := Lib.hid ho8
          have HB8 := Lib.hid (HBA.out.grown hg8 HBA.out.size (fun j hj => (HOA.out.lt j hj).1))
          clear ho8 hg8 hw8 hm1 hb1
          go_wp2_with (at_builtin; go_loud (refine wpList_append_S rfl (.tmp 46) (.tmp 49) 32 32 rfl i0 (.string ⟨#[]⟩) 16 (.slice 9) Tryz.underlying32 Tryz.underlying32 (fun _ h => by cases h) hi hz0 hz1 hz2 rfl rfl rfl HO8.out (HSR.out _ HB8.out) hm2 hb2 HB8.out.size ?_; intro A9 c9 w9; generalize k + 1 + (0) = n9 at *; intro ho9 hg9 hw9))
          have HB9 := Lib.hid (HB8.out.grown hg9 HB8.out.size (fun j hj => (HO8.out.lt j hj).1))
          have HO9 := Lib.hid (ho9.strOf (L := putS s l) (by rw [HIS.out, strVs_app, strVs_app]; rfl))
          clear ho9 hg9 hw9
          go_wp2
          rw [HPO.out]
          exact ⟨HB9.out, A9, c9, by first | (rw [← HO9.out.1]; done) | (rw [← HO9.out.1]; rfl), HO9.out.2⟩
end Go.Proofs.YtihanglnjghcfaaGreatDoor
namespace Go.Proofs.YtihanglnjghcfaaGreatDoor
open Go.RowKit
set_option linter.unusedVariables false
set_option linter.unusedSimpArgs false

def LinePost (s : ByteArray) (nm : List UInt8) (w : World) (e : Ending) (w' : World) : Prop :=
  ∃ (x : ByteArray) (b : Bool) (s' : ByteArray), e = .returned (.tuple #[.string x, .string s', .bool b]) ∧ FieldR nm s x b s' ∧ Below w.heap.size w w'
set_option maxRecDepth 100000 in
set_option maxHeartbeats 2000000 in
theorem line_any (s : ByteArray) (nm : List UInt8) (w : World) (hs : s.size ≤ 140737488351300) (hn : nm.length ≤ 100) (h10 : (10 : UInt8) ∉ nm) :
    Calls Tryz.prog 71 #[.string s, .string (bk nm)] w (LinePost s nm w) := by
  have HU := Lib.hid (upto_any s 10 w (by omega))
  have HPO : Hid (∀ e w', LinePost s nm w e w' = (∃ (x : ByteArray) (b : Bool) (s' : ByteArray), e = .returned (.tuple #[.string x, .string s', .bool b]) ∧ FieldR nm s x b s' ∧ Below w.heap.size w w')) := Lib.hid (fun _ _ => rfl)
  have z0 : (bk nm ++ (⟨#[32]⟩ : ByteArray)).size = (bk nm).size + 1 := by rw [ByteArray.size_append]; rfl
  have z1 : (bk nm).size = nm.length := bk_size nm
  have HPT : Hid ((bk nm ++ (⟨#[32]⟩ : ByteArray)).toList = nm ++ [32]) := Lib.hid (by rw [Lib.toList_data, ByteArray.data_append, Array.toList_append, bk_list])
  generalize LinePost s nm w = POST at *
  go_enter Tryz.func71, Tryz.ntmps71
  go_wp2_with fail
  refine HU.out.mono ?_
  rintro e w1 ⟨hb, ⟨hno, rfl⟩ | ⟨i, hi, hx, hno, rfl⟩⟩
  · have HB := Lib.hid hb
    have HF : Hid (FieldR nm s ⟨#[]⟩ false s) := Lib.hid (.inr ⟨rfl, fieldL_no nm _ hno, rfl⟩)
    clear hb hno
    go_wp2
    go_ret3
    rw [HPO.out]
    exact ⟨_, _, _, rfl, HF.out, HB.out⟩
  · have HB := Lib.hid hb
    have hfl := fieldL_line nm s.data.toList h10 i hx hno
    have e1 : (s.extract 0 i).data.toList = s.data.toList.take i := by rw [bk_ext0, bk_list]
    have e2 : (s.extract (i + 1) s.size).data.toList = s.data.toList.drop (i + 1) := by rw [bk_extE, bk_list]
    have zl : (s.extract 0 i).size = i := by rw [bk_ext0, bk_size, List.length_take, ← Lib.size_eq]; omega
    by_cases hle : nm.length + 1 ≤ i
    · have d1 : decide ((i : Int) < (nm.length : Int) + 1) = false := decide_eq_false (by omega)
      have d1' : decide (i < nm.length + 1) = false := decide_eq_false (by omega)
      have c2 : (nm.length : Int) + 1 ≤ (i : Int) := by omega
      by_cases hp : (s.data.toList.take i).take (nm.length + 1) = nm ++ [32]
      · have HF : Hid (FieldR nm s ((s.extract 0 i).extract (nm.length + 1) i) true (s.extract (i + 1) s.size)) := Lib.hid (.inl ⟨rfl, by
          rw [hfl, if_pos ⟨hle, hp⟩, e2, bk_ext, bk_list, e1, List.take_take, Nat.min_self]⟩)
        have q1 : (((s.extract 0 i).extract 0 (nm.length + 1)).toList == (bk nm ++ (⟨#[32]⟩ : ByteArray)).toList) = true := by
          rw [HPT.out, Lib.toList_data, bk_ext0, bk_list, e1, beq_iff_eq]; exact hp
        have q2 : (!((s.extract 0 i).extract 0 (nm.length + 1)).toList == (bk nm ++ (⟨#[32]⟩ : ByteArray)).toList) = false := by rw [q1]; rfl
        clear hb hfl e1 e2 hx hno hp hle
        go_wp2
        go_ret3
        rw [HPO.out]
        exact ⟨_, _, _, rfl, HF.out, HB.out⟩
      · have HF : Hid (FieldR nm s ⟨#[]⟩ false s) := Lib.hid (.inr ⟨rfl, by rw [hfl, if_neg (fun h => hp h.2)], rfl⟩)
        have q1 : (((s.extract 0 i).extract 0 (nm.length + 1)).toList == (bk nm ++ (⟨#[32]⟩ : ByteArray)).toList) = false := by
          rw [HPT.out, Lib.toList_data, bk_ext0, bk_list, e1, beq_eq_false_iff_ne]; exact hp
        have q2 : (!((s.extract 0 i).extract 0 (nm.length + 1)).toList == (bk nm ++ (⟨#[32]⟩ : ByteArray)).toList) = true := by rw [q1]; rfl
        clear hb hfl e1 e2 hx hno hp hle
        go_wp2
        go_ret3
        rw [HPO.out]
        exact ⟨_, _, _, rfl, HF.out, HB.out⟩
    · have d1 : decide ((i : Int) < (nm.length : Int) + 1) = true := decide_eq_true (by omega)
      have d1' : decide (i < nm.length + 1) = true := decide_eq_true (by omega)
      have HF : Hid (FieldR nm s ⟨#[]⟩ false s) := Lib.hid (.inr ⟨rfl, by rw [hfl, if_neg (fun h => hle h.1)], rfl⟩)
      clear hb hfl e1 e2 hx hno hle
      go_wp2
      go_ret3
      rw [HPO.out]
      exact ⟨_, _, _, rfl, HF.out, HB.out⟩
end Go.Proofs.YtihanglnjghcfaaGreatDoor
