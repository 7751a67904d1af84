/- The IDs of a walk, rising. -/
import Derived.Test.YtihanglnjghcfaaGreatDoorGOn13
import Derived.Shelf.LaysM
import Derived.Ground.SlgmProg
import Derived.Shelf.SortM.Plain
import Derived.Shelf.SortM.SortNone
import Derived.Test.YtihanglnjghcfaaGreatDoorProg
import Derived.Test.YtihanglnjghcfaaGreatDoorGOn5
import Derived.Laws.MakeOwn
namespace Go.Proofs.YtihanglnjghcfaaGreatDoor
open Go.RowKit Go.Maps
set_option linter.unusedVariables false
set_option linter.unusedSimpArgs false

/-- The texts, rising. -/
def sortG (L : List Gid) : List Gid := L.mergeSort fun x y => decide (x ≤ y)
theorem sortG_len (L : List Gid) : (sortG L).length = L.length := by unfold sortG; exact List.length_mergeSort _
theorem sortG_mem {L : List Gid} {x : Gid} : x ∈ sortG L ↔ x ∈ L := (List.mergeSort_perm _ _).mem_iff
/-- What slices.Sort does to a row of texts. -/
def SortsS : Prop := ∀ (w : World) (B : Nat) (A : Option Addr) (n c : Nat) (P : List Gid), OwnS w B 9 1 (.slice A n c) n (strVs P) → n ≤ 1073741824 →
  Calls Tryz.prog 60 #[.slice A n c] w fun e w' => e = .returned (.tuple #[]) ∧ OwnS w' B 9 1 (.slice A n c) n (strVs (sortG P)) ∧ Chg (fun k => Value.ownBlock (.slice A n c) = some k) w w'
set_option maxRecDepth 100000 in
theorem clipS_any (A : Option Addr) (n c : Nat) (w : World) (hn : n ≤ c) (hc : c ≤ 9223372036854775807) :
    Calls Tryz.prog 47 #[.slice A n c] w fun e w' => e = .returned (.slice A n n) ∧ w = w' := by
  have h0 : (n : Int) ≤ c := by omega
  go_enter Tryz.func47, Tryz.ntmps47
  go_wp2
  go_ret
  exact ⟨rfl, rfl⟩
theorem info_str1 : (Tryz.prog.info? 9).map (fun i => (i.zero, i.size, i.bytes)) = some (some (.string ⟨#[]⟩), 1, 16) := by kernel_rfl
theorem OwnS.capM {w : World} {base size n c : Nat} {e : TypeId} {A : Option Addr} {xs : List Value} (h : OwnS w base e size (.slice A n c) n xs) : c ≤ 9223372036854775807 := by
  rcases h.2 with ⟨hv, _⟩ | ⟨g, off, cap, cur, hv, _, _, _, hm, _⟩
  · injection hv with _ _ h1; omega
  · injection hv with _ _ h1
    subst h1
    unfold maxLen at hm
    omega
def IdsPost (L : List Gid) (w : World) (e : Ending) (w' : World) : Prop :=
  Below w.heap.size w w' ∧ ∃ A, e = .returned (.slice A L.length L.length) ∧ OwnS w' w.heap.size 9 1 (.slice A L.length L.length) L.length (strVs L)
set_option maxRecDepth 100000 in
set_option maxHeartbeats 2000000 in
theorem ids_any (hSo : SortsS) (K : Nat → Prop) (g : Nat) (get : Value) (easy : Bool) (l : List Git) (w : World) (h : WalkAt w K g get easy l) (hl : l.length ≤ 1073741824) :
    Calls Tryz.prog 37 #[.pointer (some ⟨g, 0, none⟩)] w (IdsPost (sortG (l.map (·.id))) w) := by
  obtain ⟨i0, hi, hz0, hz1, hz2⟩ := info_parts info_str1
  obtain ⟨_, A, c, _, _, hce, how, _⟩ := h
  have hG : Hid (∀ (i : Nat) (x : Git), l[i]? = some x → ∃ b o, A = some ⟨b, o, none⟩ ∧ b < w.heap.size ∧ w.cell? ⟨b, o + i * 2, none⟩ = some (.string (bk x.id)) ∧ w.cell? ⟨b, o + i * 2 + 1, none⟩ = some (.int .i64 x.kd)) := Lib.hid (fun i x hx => by
    obtain ⟨b, o, h1, _, h2, h3⟩ := OwnS.flat itV_len (by decide) how hx
    exact ⟨b, o, h1, h2, h3 0 (by decide), h3 1 (by decide)⟩)
  have k1 : w.cell? ⟨g, 1, none⟩ = some (.slice A l.length c) := hce.cell 1 (by decide)
  have HL := Lib.hid hl
  clear hce how hl
  go_enter Tryz.func37, Tryz.ntmps37
  go_wp2
  go_loopw [3, 11] (fun v3 vn wr => ∃ (n : Nat) (A3 : Option Addr) (c3 : Nat), vn = .int .i64 n ∧ v3 = .slice A3 n c3 ∧ n ≤ l.length ∧ OwnS wr w.heap.size 9 1 (.slice A3 n c3) n (strVs ((l.take n).map (·.id))) ∧ Below w.heap.size w wr) (fun _ vn _ => l.length - (intOf vn).toNat)
  case atStart => exact ⟨0, none, 0, rfl, rfl, by omega, OwnS.nil _ _ _ _, Below.refl _ _⟩
  case round =>
    obtain ⟨n, A3, c3, rfl, rfl, hn, ho, hb⟩ := hrel
    have HO := Lib.hid ho
    have HB := Lib.hid hb
    clear ho hb
    by_cases hlt : n < l.length
    · have d1 : decide ((n : Int) < (l.length : Int)) = true := decide_eq_true (by omega)
      have d1' : decide (n < l.length) = true := decide_eq_true hlt
      obtain ⟨b, o, hA, hbl, hc0, hc1⟩ := hG.out n l[n] (List.getElem?_eq_getElem hlt)
      subst hA
      have HTK : Hid (strVs ((l.take (n + 1)).map (·.id)) = strVs ((l.take n).map (·.id)) ++ [.string (bk l[n].id)]) := Lib.hid (by unfold strVs; rw [List.take_add_one, List.getElem?_eq_getElem hlt, List.map_append, List.map_append]; rfl)
      generalize hx : l[n] = x at *
      have f0 := (HB.out.cell (p := ⟨b, o + n * 2, none⟩) hbl).trans hc0
      have f1 := (HB.out.cell (p := ⟨b, o + n * 2 + 1, none⟩) hbl).trans hc1
      have hle : ¬ (l.length : Int) ≤ n := by omega
      have hn0 : (0 : Int) ≤ n := by omega
      have hnl : (n : Int) < l.length := by omega
      have hw1 : IntKind.i64.wrap ((n : Int) + 1) = (n : Int) + 1 := IntWalk.i64_in _ (by have := HL.out; omega)
      have z0 : (wr.alloc (.cells #[.string (bk x.id), .int .i64 x.kd] 101)).cell? ⟨wr.heap.size, 0, none⟩ = some (.string (bk x.id)) := by rw [World.cell?_alloc_at _ _ _ _ (by simp)]; rfl
      have HS := Lib.hid (Src.one_new (P := Tryz.prog) (w := wr.alloc (.cells #[.string (bk x.id), .int .i64 x.kd] 101)) (u := .string (bk x.id)) (t := 9) rfl)
      have HOA := Lib.hid ((HO.out.alloc (.cells #[.string (bk x.id), .int .i64 x.kd] 101)).alloc (.cells #[.string (bk x.id)] 9))
      have HBA : Hid (Below w.heap.size w ((wr.alloc (.cells #[.string (bk x.id), .int .i64 x.kd] 101)).alloc (.cells #[.string (bk x.id)] 9))) := Lib.hid (HB.out.trans ((((Below.refl _ _).alloc (Nat.le_refl _) _).alloc (by simp) _).mono HB.out.size))
      have hm9 : n + 1 ≤ maxLen := by have := HL.out; unfold maxLen; omega
      have hb9 : (n + 1) * 16 ≤ 140737488355328 := by have := HL.out; omega
      clear hc0 hc1 hbl hx
      go_upto_region 5 with (fail)
      generalize wr.alloc (.cells #[.string (bk x.id), .int .i64 x.kd] 101) = wa at *
      go_wp2_with (at_builtin; go_loud (refine wpList_append_S rfl (.tmp 15) (.tmp 18) 32 32 rfl i0 (.string ⟨#[]⟩) 16 (.slice 9) Tryz.underlying32 Tryz.underlying32 (fun _ h => by cases h) hi hz0 hz1 hz2 rfl rfl rfl HOA.out HS.out hm9 hb9 HBA.out.size ?_; intro A8 c8 w8; generalize hnn : n + 1 = nn at *; intro ho8 hg8 hw8; go_loud (have HO8 := Lib.hid ho8); go_loud (have HB8 := Lib.hid (HBA.out.grown hg8 HBA.out.size (fun j hj => (HOA.out.lt j hj).1))); have HNN := Lib.hid hnn; clear ho8 hg8 hw8 hnn))
      go_roundw
      case rel => exact ⟨nn, A8, c8, by rw [← HNN.out]; rfl, rfl, by have := HNN.out; omega, by rw [HTK.out]; exact HO8.out, HB8.out⟩
      case measure => have := HNN.out; simp [intOf]; omega
    · have d1 : decide ((n : Int) < (l.length : Int)) = false := decide_eq_false (by omega)
      have d1' : decide (n < l.length) = false := decide_eq_false hlt
      have hnl : n = l.length := by omega
      rw [hnl] at HO
      have HO2 : Hid (OwnS wr w.heap.size 9 1 (.slice A3 l.length c3) l.length (strVs (l.map (·.id)))) := Lib.hid (by have := HO.out; rwa [List.take_length] at this)
      have HSO := Lib.hid (hSo wr w.heap.size A3 l.length c3 _ HO2.out HL.out)
      have HLT := Lib.hid HO2.out.lt
      subst hnl
      clear d1 d1' hlt HO HO2
      go_wp2_with fail
      refine HSO.out.mono ?_
      rintro e w2 ⟨rfl, ho2, hc2⟩
      have HC := Lib.hid (HB.out.trans (hc2.below HB.out.size (fun k hk h => by have := HLT.out k h; omega)))
      have HO2 := Lib.hid ho2
      have HCP := Lib.hid (clipS_any A3 l.length c3 w2 ho2.cap ho2.capM)
      clear ho2 hc2
      go_wp2_with fail
      refine HCP.out.mono ?_
      rintro e w3 ⟨rfl, rfl⟩
      go_wp2
      go_ret
      have e1 : (sortG (l.map (·.id))).length = l.length := by rw [sortG_len, List.length_map]
      refine ⟨HC.out, A3, by rw [e1]; rfl, ?_⟩
      rw [e1]
      exact HO2.out.clipN
end Go.Proofs.YtihanglnjghcfaaGreatDoor
namespace Go.Proofs
open Go.Shelf
def Tryz.laysSlM6_f60_ren : Go.Shelf.Ren := ⟨fun | 6 => 60 | 8 => 81 | 9 => 80 | 19 => 101 | 20 => 102 | 21 => 93 | 22 => 94 | 23 => 95 | 24 => 96 | 25 => 97 | 26 => 98 | 27 => 64 | 28 => 99 | 29 => 100 | 36 => 117 | 31 => 118 | 32 => 119 | 37 => 120 | 38 => 121 | 39 => 87 | 41 => 134 | n => n, fun | 27 => 32 | 29 => 9 | 3 => 3 | 32 => 77 | 26 => 32 | 0 => 0 | 44 => 140 | 46 => 138 | 4 => 4 | 36 => 156 | 35 => 155 | 41 => 99 | 5 => 5 | 9 => 9 | 53 => 173 | 57 => 177 | 63 => 185 | 64 => 186 | n => n, fun | n => n⟩
theorem Tryz.laysSlM6_f60 : Go.Proofs.SlLaysM.n6 Tryz.prog Tryz.laysSlM6_f60_ren := {
  mixed := by kernel_rfl
  f6 := ⟨Tryz.f60.name, by decide, Tryz.func60.trans (congrArg some (by kernel_rfl))⟩
  f8 := Tryz.func81.trans (congrArg some (by kernel_rfl))
  f9 := ⟨Tryz.f80.name, by decide, Tryz.func80.trans (congrArg some (by kernel_rfl))⟩
  f19 := Tryz.func101.trans (congrArg some (by kernel_rfl))
  f20 := Tryz.func102.trans (congrArg some (by kernel_rfl))
  f21 := ⟨Tryz.f93.name, by decide, Tryz.func93.trans (congrArg some (by kernel_rfl))⟩
  f22 := ⟨Tryz.f94.name, by decide, Tryz.func94.trans (congrArg some (by kernel_rfl))⟩
  f23 := ⟨Tryz.f95.name, by decide, Tryz.func95.trans (congrArg some (by kernel_rfl))⟩
  f24 := ⟨Tryz.f96.name, by decide, Tryz.func96.trans (congrArg some (by kernel_rfl))⟩
  f25 := ⟨Tryz.f97.name, by decide, Tryz.func97.trans (congrArg some (by kernel_rfl))⟩
  f26 := ⟨Tryz.f98.name, by decide, Tryz.func98.trans (congrArg some (by kernel_rfl))⟩
  f27 := ⟨Tryz.f64.name, by decide, Tryz.func64.trans (congrArg some (by kernel_rfl))⟩
  f28 := ⟨Tryz.f99.name, by decide, Tryz.func99.trans (congrArg some (by kernel_rfl))⟩
  f29 := ⟨Tryz.f100.name, by decide, Tryz.func100.trans (congrArg some (by kernel_rfl))⟩
  f31 := Tryz.func118.trans (congrArg some (by kernel_rfl))
  f32 := Tryz.func119.trans (congrArg some (by kernel_rfl))
  f36 := ⟨Tryz.f117.name, by decide, Tryz.func117.trans (congrArg some (by kernel_rfl))⟩
  f37 := ⟨Tryz.f120.name, by decide, Tryz.func120.trans (congrArg some (by kernel_rfl))⟩
  f38 := ⟨Tryz.f121.name, by decide, Tryz.func121.trans (congrArg some (by kernel_rfl))⟩
  f39 := ⟨Tryz.f87.name, by decide, Tryz.func87.trans (congrArg some (by kernel_rfl))⟩
  f41 := ⟨Tryz.f134.name, by decide, Tryz.func134.trans (congrArg some (by kernel_rfl))⟩
  t0 := Tryz.underlying0
  a0 := Tryz.isAgg0
  z0 := Tryz.sizeOf0
  v0 := Tryz.zeroValue0
  t3 := Tryz.underlying3
  a3 := Tryz.isAgg3
  z3 := Tryz.sizeOf3
  v3 := Tryz.zeroValue3
  t4 := Tryz.underlying4
  a4 := Tryz.isAgg4
  z4 := Tryz.sizeOf4
  v4 := Tryz.zeroValue4
  t5 := Tryz.underlying5
  a5 := Tryz.isAgg5
  z5 := Tryz.sizeOf5
  v5 := Tryz.zeroValue5
  t9 := Tryz.underlying9
  a9 := Tryz.isAgg9
  z9 := Tryz.sizeOf9
  v9 := Tryz.zeroValue9
  t26 := Tryz.underlying32
  a26 := Tryz.isAgg32
  z26 := Tryz.sizeOf32
  v26 := Tryz.zeroValue32
  t27 := Tryz.underlying32
  a27 := Tryz.isAgg32
  z27 := Tryz.sizeOf32
  v27 := Tryz.zeroValue32
  t29 := Tryz.underlying9
  a29 := Tryz.isAgg9
  z29 := Tryz.sizeOf9
  v29 := Tryz.zeroValue9
  t32 := Tryz.underlying77
  a32 := Tryz.isAgg77
  z32 := Tryz.sizeOf77
  v32 := Tryz.zeroValue77
  t35 := Tryz.underlying155
  a35 := Tryz.isAgg155
  z35 := Tryz.sizeOf155
  v35 := Tryz.zeroValue155
  t36 := Tryz.underlying156
  a36 := Tryz.isAgg156
  z36 := Tryz.sizeOf156
  v36 := Tryz.zeroValue156
  t41 := Tryz.underlying99
  a41 := Tryz.isAgg99
  z41 := Tryz.sizeOf99
  v41 := Tryz.zeroValue99
  t44 := Tryz.underlying140
  a44 := Tryz.isAgg140
  z44 := Tryz.sizeOf140
  v44 := Tryz.zeroValue140
  t46 := Tryz.underlying138
  a46 := Tryz.isAgg138
  z46 := Tryz.sizeOf138
  v46 := Tryz.zeroValue138
  t53 := Tryz.underlying173
  a53 := Tryz.isAgg173
  z53 := Tryz.sizeOf173
  v53 := Tryz.zeroValue173
  t57 := Tryz.underlying177
  a57 := Tryz.isAgg177
  z57 := Tryz.sizeOf177
  v57 := Tryz.zeroValue177
  t63 := Tryz.underlying185
  a63 := Tryz.isAgg185
  z63 := Tryz.sizeOf185
  v63 := Tryz.zeroValue185
  t64 := Tryz.underlying186
  a64 := Tryz.isAgg186
  z64 := Tryz.sizeOf186
  v64 := Tryz.zeroValue186 }
open Go.Sort Go.RowKit in
theorem Tryz.slices_Sort_string (blk off cap : Nat) (ss : List (List UInt8)) (w : World) (hH : Holds encStr w blk off ss.toArray) (hblk : blk < w.heap.size) (hsz : ss.length < 4611686018427387904) :
    Calls Tryz.prog 60 #[.slice (some ⟨blk, off, none⟩) ss.length cap] w fun e w' =>
      e = .returned (.tuple #[]) ∧ ∃ n os, w' = grow (putRow encStr (Sort.ahead w n) blk off (ss.mergeSort fun x y => decide (x ≤ y)).toArray) os := AnyM.slices_Sort_string Tryz.laysSlM6_f60 blk off cap ss w hH hblk hsz
open Go.RowKit Go.Sort in
/-- .. and plain. (LAID AT THE INSTANCE 'slices.Sort[[]string,string]': no walk: one application.) -/
theorem Tryz.slices_Sort_string_none (p : Option Addr) (cap : Nat) (w : World) :
    Calls Tryz.prog 60 #[.slice p 0 cap] w fun e w' => e = .returned (.tuple #[]) ∧ w' = w := AnyM.slices_Sort_string_none Tryz.laysSlM6_f60 p cap w
end Go.Proofs
namespace Go.Proofs.YtihanglnjghcfaaGreatDoor
open Go.RowKit Go.Maps Go.Sort
set_option linter.unusedVariables false
set_option linter.unusedSimpArgs false

theorem putRow_owns {w : World} {B blk off cap : Nat} {e : TypeId} {P Q : List Gid} (h : OwnS w B e 1 (.slice (some ⟨blk, off, none⟩) P.length cap) P.length (strVs P)) (hq : Q.length = P.length) :
    OwnS (putRow encStr w blk off Q.toArray) B e 1 (.slice (some ⟨blk, off, none⟩) Q.length cap) Q.length (strVs Q) := by
  refine ⟨by simp [strVs], ?_⟩
  rcases h.2 with ⟨hv, _⟩ | ⟨g, o, c', cur, hv, hb, ⟨fr, hg, hf⟩, hn, hm, hs, ht⟩
  · cases hv
  · injection hv with hA _ hc
    injection hA with hA
    injection hA with h1 h2
    subst h1; subst h2; subst hc
    refine .inr ⟨blk, off, cap, putCells encStr off Q.toArray cur, rfl, hb, ⟨fr, ?_, ?_⟩, by rw [hq]; exact hn, hm, ?_, ?_⟩
    · simp [putRow, mapBlock, Array.getElem?_modify, hg, onCells]
    · unfold putCells; rw [Array.size_mapIdx]; exact hf
    · unfold putCells; rw [Array.size_mapIdx]; exact hs
    · apply List.ext_getElem?
      intro i
      have hsz : off + P.length ≤ cur.size := by omega
      rw [List.getElem?_take, List.getElem?_drop, Array.getElem?_toList]
      unfold putCells strVs
      rw [Array.getElem?_mapIdx, List.getElem?_map]
      by_cases hi : i < Q.length * 1
      · rw [if_pos hi, Array.getElem?_eq_getElem (show off + i < cur.size by omega), Option.map_some, if_pos ⟨by omega, by simp; omega⟩, show off + i - off = i by omega, List.getElem?_eq_getElem (show i < Q.length by omega)]
        simp only [Option.map_some]
        congr 1
        have : (Q.toArray)[i]! = Q[i] := by rw [getElem!_pos _ _ (by simp; omega)]; simp
        rw [this]
        rfl
      · rw [if_neg hi, List.getElem?_eq_none (by omega)]; rfl
set_option maxRecDepth 100000 in
/-- slices.Sort of a row of texts. -/
theorem sortsS : SortsS := by
  intro w B A n c P h hn
  have hl := h.strs
  subst hl
  by_cases h0 : P.length = 0
  · have hP : P = [] := List.length_eq_zero_iff.1 h0
    subst hP
    refine (Tryz.slices_Sort_string_none A c w).mono ?_
    rintro e w' ⟨rfl, rfl⟩
    exact ⟨rfl, by unfold sortG; simpa using h, Chg.refl _ _⟩
  · obtain ⟨blk, off, c', hv, hb, hlt, hcl⟩ := h.cells (by simp [strVs]; omega)
    injection hv with hA _ hc
    subst hA; subst hc
    have hH : Holds encStr w blk off P.toArray := fun j hj => by
      have hj2 : j < P.length := by simpa using hj
      refine ⟨?_, (h.free (j := j) (by simp [strVs]; exact hj2)).1⟩
      rw [hcl j (by simp [strVs]; exact hj2)]
      unfold strVs
      rw [List.getElem?_map, List.getElem?_eq_getElem hj2, Option.map_some]
      have : (P.toArray)[j]! = P[j] := by rw [getElem!_pos P.toArray j (by simpa using hj2)]; simp
      rw [this]
      rfl
    refine (Tryz.slices_Sort_string blk off c P w hH hlt (by omega)).mono ?_
    rintro e w' ⟨rfl, m, os, rfl⟩
    have hq := sortG_len P
    have h1 : OwnS (putRow encStr (Go.Sort.ahead w m) blk off (sortG P).toArray) B 9 1 (.slice (some ⟨blk, off, none⟩) (sortG P).length c) (sortG P).length (strVs (sortG P)) := putRow_owns (w := Go.Sort.ahead w m) (h.heap fun _ _ => rfl) hq
    rw [hq] at h1
    have hbk : ∀ k, k < w.heap.size → (grow (putRow encStr (Go.Sort.ahead w m) blk off (sortG P).toArray) os).heap[k]? = (putRow encStr (Go.Sort.ahead w m) blk off (sortG P).toArray).heap[k]? := fun k hk => by
      unfold grow
      rw [Array.getElem?_append_left (by simp [putRow, mapBlock]; exact hk)]
    refine ⟨rfl, h1.heap fun k hk => hbk k (by have := (h1.lt k hk).2; simpa [putRow, mapBlock] using this), ?_⟩
    refine ⟨rfl, rfl, rfl, by simp [grow, putRow, mapBlock], fun k hk hn => ?_⟩
    refine (hbk k hk).trans ?_
    have hne : blk ≠ k := fun e => hn (by subst e; rfl)
    simp [putRow, mapBlock, Array.getElem?_modify, hne]
end Go.Proofs.YtihanglnjghcfaaGreatDoor
namespace Go.Proofs.YtihanglnjghcfaaGreatDoor
open Go.RowKit Go.Maps
set_option linter.unusedVariables false
set_option linter.unusedSimpArgs false

def idxK (R : List Kn) (d : Gid) : Option Nat := R.findIdx? fun o => o.id == d
/-- What is counted: one more at the place of the one asked. -/
def stepA (R : List Kn) (L : List Int) (d : Gid) : List Int := match idxK R d with | none => L | some i => L.set i (IntKind.i64.wrap (L.getD i 0 + 1))
def askF (R : List Kn) (qs : List Gid) : List Int := qs.foldl (stepA R) (List.replicate (R.length + 1) 0)
theorem stepA_len (R : List Kn) (L : List Int) (d : Gid) : (stepA R L d).length = L.length := by unfold stepA; split <;> simp
theorem askF_len (R : List Kn) (qs : List Gid) : (askF R qs).length = R.length + 1 := by
  unfold askF
  have : ∀ (qs : List Gid) (L : List Int), (qs.foldl (stepA R) L).length = L.length := fun qs => by
    induction qs with
    | nil => intro L; rfl
    | cons d qs ih => intro L; rw [List.foldl_cons, ih, stepA_len]
  rw [this]; simp
theorem askF_snoc (R : List Kn) (qs : List Gid) (d : Gid) : askF R (qs ++ [d]) = stepA R (askF R qs) d := by unfold askF; rw [List.foldl_append]; rfl
theorem idxK_lt {R : List Kn} {d : Gid} {i : Nat} (h : idxK R d = some i) : i < R.length := by
  unfold idxK at h
  obtain ⟨hi, _⟩ := List.findIdx?_eq_some_iff_getElem.1 h
  exact hi
theorem idxK_id {R : List Kn} {d : Gid} {i : Nat} (h : idxK R d = some i) : ∃ x, R[i]? = some x ∧ x.id = d := by
  unfold idxK at h
  obtain ⟨hi, h1, _⟩ := List.findIdx?_eq_some_iff_getElem.1 h
  exact ⟨R[i], List.getElem?_eq_getElem hi, by simpa using h1⟩
/-- Asked of each once at most: counted once at most. -/
theorem askF_once (R : List Kn) (qs : List Gid) (hn : qs.Nodup) : ∀ i, (askF R qs).getD i 0 = if ∃ d ∈ qs, idxK R d = some i then 1 else 0 := by
  have key : ∀ (qs : List Gid), qs.Nodup → ∀ i, (askF R qs.reverse).getD i 0 = if ∃ d ∈ qs, idxK R d = some i then 1 else 0 := by
    intro qs
    induction qs with
    | nil =>
      intro _ i
      unfold askF
      simp only [List.reverse_nil, List.foldl_nil, List.not_mem_nil, false_and, exists_false, if_false]
      rw [List.getD_eq_getElem?_getD, List.getElem?_replicate]
      split <;> rfl
    | cons d qs ih =>
      intro hn i
      obtain ⟨h1, h2⟩ := List.nodup_cons.1 hn
      have ih := ih h2
      rw [List.reverse_cons, askF_snoc]
      unfold stepA
      cases hd : idxK R d with
      | none =>
        dsimp only
        rw [ih i]
        have : (∃ q ∈ d :: qs, idxK R q = some i) ↔ ∃ q ∈ qs, idxK R q = some i := by
          constructor
          · rintro ⟨q, hq, he⟩
            rcases List.mem_cons.1 hq with rfl | hq
            · rw [hd] at he; cases he
            · exact ⟨q, hq, he⟩
          · rintro ⟨q, hq, he⟩; exact ⟨q, List.mem_cons_of_mem _ hq, he⟩
        simp only [this]
      | some j =>
        dsimp only
        have hj := idxK_lt hd
        have hlen := askF_len R qs.reverse
        by_cases e : i = j
        · subst e
          have h0 : (askF R qs.reverse).getD i 0 = 0 := by
            rw [ih i, if_neg]
            rintro ⟨q, hq, he⟩
            obtain ⟨x, hx, hxd⟩ := idxK_id hd
            obtain ⟨y, hy, hyd⟩ := idxK_id he
            rw [hx] at hy
            injection hy with hy
            subst hy
            exact h1 (by rw [← hxd, hyd]; exact hq)
          rw [if_pos ⟨d, by simp, hd⟩, List.getD_eq_getElem?_getD, List.getElem?_set_self (by omega), h0]
          rfl
        · have : (∃ q ∈ d :: qs, idxK R q = some i) ↔ ∃ q ∈ qs, idxK R q = some i := by
            constructor
            · rintro ⟨q, hq, he⟩
              rcases List.mem_cons.1 hq with rfl | hq
              · rw [hd] at he; injection he with he; exact absurd he.symm e
              · exact ⟨q, hq, he⟩
            · rintro ⟨q, hq, he⟩; exact ⟨q, List.mem_cons_of_mem _ hq, he⟩
          rw [List.getD_eq_getElem?_getD, List.getElem?_set_ne (fun h => e h.symm), ← List.getD_eq_getElem?_getD, ih i]
          simp only [this]
  have h2 := key qs.reverse (List.pairwise_reverse.2 (hn.imp fun h => h.symm))
  rw [List.reverse_reverse] at h2
  intro i
  rw [h2 i]
  simp only [List.mem_reverse]
theorem idxK_none {R : List Kn} {d : Gid} (h : ∀ j x, j < R.length → R[j]? = some x → x.id ≠ d) : idxK R d = none := by
  unfold idxK
  rw [List.findIdx?_eq_none_iff]
  intro x hx
  obtain ⟨j, hj⟩ := List.mem_iff_getElem?.1 hx
  have := h j x (List.getElem?_eq_some_iff.1 hj).1 hj
  simpa using this
theorem idxK_hit {R : List Kn} {d : Gid} {i : Nat} {x : Kn} (h : ∀ j y, j < i → R[j]? = some y → y.id ≠ d) (hx : R[i]? = some x) (he : x.id = d) : idxK R d = some i := by
  unfold idxK
  have hi := (List.getElem?_eq_some_iff.1 hx).1
  rw [List.findIdx?_eq_some_iff_getElem]
  refine ⟨hi, ?_, fun j hj => ?_⟩
  · rw [(List.getElem?_eq_some_iff.1 hx).2]; simpa using he
  · have := h j R[j] hj (List.getElem?_eq_getElem (by omega))
    simpa using this
/-- How the counting function's memory lies. -/
structure OnceSt (r bR bA ba oa : Nat) (R : List Kn) (F : Nat → Prop) (qs : List Gid) (w : World) : Prop where
  low : ∀ k, F k → k < w.heap.size
  rep : RepAt w (fun k => F k ∧ k ≠ ba) r R
  fR : F bR
  fA : F bA
  fa : F ba
  cR : w.cell? ⟨bR, 0, none⟩ = some (.pointer (some ⟨r, 0, none⟩))
  cA : w.cell? ⟨bA, 0, none⟩ = some (.slice (some ⟨ba, oa, none⟩) (R.length + 1) (R.length + 1))
  row : OwnS w 0 3 1 (.slice (some ⟨ba, oa, none⟩) (R.length + 1) (R.length + 1)) (R.length + 1) ((askF R qs).map (Value.int .i64))
  nR : bR ≠ ba
  nA : bA ≠ ba
theorem OnceSt.keep {r bR bA ba oa : Nat} {R : List Kn} {F S : Nat → Prop} {qs : List Gid} {w w' : World} (h : OnceSt r bR bA ba oa R F qs w) (hc : Chg S w w') (hS : ∀ k, F k → ¬ S k) : OnceSt r bR bA ba oa R F qs w' where
  low := fun k hk => Nat.lt_of_lt_of_le (h.low k hk) hc.size
  rep := h.rep.keep hc (fun k hk _ => hS k hk.1) (fun k hk _ => hk)
  fR := h.fR
  fA := h.fA
  fa := h.fa
  cR := (World.cell?_of_block (hc.block bR (block_lt h.cR) (hS bR h.fR))).trans h.cR
  cA := (World.cell?_of_block (hc.block bA (block_lt h.cA) (hS bA h.fA))).trans h.cA
  row := h.row.chg hc fun k hk => hS k (by injection hk with hk; rw [← hk]; exact h.fa)
  nR := h.nR
  nA := h.nA
def OncePost (r bR bA ba oa : Nat) (R : List Kn) (F : Nat → Prop) (qs : List Gid) (d : Gid) (w : World) (e : Ending) (w' : World) : Prop :=
  ∃ F', OnceSt r bR bA ba oa R F' (qs ++ [d]) w' ∧ Chg F w w' ∧ (∀ k, F' k → F k ∨ w.heap.size ≤ k) ∧ TellPost (getK R d) e w'
set_option maxRecDepth 100000 in
set_option maxHeartbeats 4000000 in
theorem once1_any (w : World) (F : Nat → Prop) (r bR bA ba oa : Nat) (R : List Kn) (qs : List Gid) (d : Gid) (h : OnceSt r bR bA ba oa R F qs w) (hl : R.length ≤ 1073741824) (hz : ∀ x ∈ R, x.b.length ≤ 140737488351300) :
    Calls Tryz.prog 21 #[.string (bk d), .pointer (some ⟨bR, 0, none⟩), .pointer (some ⟨bA, 0, none⟩)] w (OncePost r bR bA ba oa R F qs d w) := by
  have HST := Lib.hid h
  have k1 := h.cR
  have k2 := h.cA
  obtain ⟨_, A, c, _, _, _, hce, how, hoK⟩ := h.rep
  have hG : Hid (∀ (i : Nat) (x : Kn), R[i]? = some x → ∃ b o, A = some ⟨b, o, none⟩ ∧ b ≠ ba ∧ ∀ j, j < 3 → w.cell? ⟨b, o + i * 3 + j, none⟩ = (knV x)[j]?) := Lib.hid (fun i x hx => by
    obtain ⟨b, o, h1, _, _, h2⟩ := OwnS.flat knV_len (by decide) how hx
    subst h1
    exact ⟨b, o, rfl, (hoK b rfl).2, h2⟩)
  have hrb : r ≠ ba := h.rep.1.2
  have k0 : w.cell? ⟨r, 0, none⟩ = some (.slice A R.length c) := hce.cell 0 (by decide)
  have HL := Lib.hid hl
  have HZ := Lib.hid hz
  have HRB := Lib.hid hrb
  clear hce how hoK h hl hz hrb
  go_enter Tryz.func21, Tryz.ntmps21
  go_wp2
  go_loopw [7] (fun vn wr => ∃ n : Nat, vn = .int .i64 n ∧ n ≤ R.length ∧ wr = w ∧ ∀ j x, j < n → R[j]? = some x → x.id ≠ d) (fun vn _ => R.length - (intOf vn).toNat)
  case atStart => exact ⟨0, rfl, by omega, rfl, fun j x h => absurd h (by omega)⟩
  case round =>
    obtain ⟨n, rfl, hn, hwr, hno⟩ := hrel
    subst hwr
    have HNO := Lib.hid hno
    clear hno
    by_cases hlt : n < R.length
    · have d1 : decide ((n : Int) < (R.length : Int)) = true := decide_eq_true (by omega)
      have d1' : decide (n < R.length) = true := decide_eq_true hlt
      obtain ⟨b, o, hA, hbn, hc⟩ := hG.out n R[n] (List.getElem?_eq_getElem hlt)
      subst hA
      generalize hx : R[n] = x at *
      have HX : Hid (R[n]? = some x) := Lib.hid (by rw [List.getElem?_eq_getElem hlt, hx])
      have f0 : wr.cell? ⟨b, o + n * 3, none⟩ = some (.int .i64 x.kd) := hc 0 (by decide)
      have f1 : wr.cell? ⟨b, o + n * 3 + 1, none⟩ = some (.string (bk x.b)) := hc 1 (by decide)
      have f2 : wr.cell? ⟨b, o + n * 3 + 2, none⟩ = some (.string (bk x.id)) := hc 2 (by decide)
      have hle : ¬ (R.length : Int) ≤ n := by omega
      have hn0 : (0 : Int) ≤ n := by omega
      have hnl : (n : Int) < R.length := by omega
      clear hc hx
      by_cases he : x.id = d
      · have q1 : ((bk x.id).toList == (bk d).toList) = true := by rw [he]; simp
        have HRR : Hid (getK R d = some x) := Lib.hid (getK_step HNO.out HX.out he)
        have HIX : Hid (idxK R d = some n) := Lib.hid (idxK_hit HNO.out HX.out he)
        have hlen := askF_len R qs
        have HLA := Lib.hid hlen
        obtain ⟨g2, o2, c2, hv, _, _, hcl⟩ := HST.out.row.cells (by simp; omega)
        have hcc : wr.cell? ⟨ba, oa + n, none⟩ = some (.int .i64 ((askF R qs).getD n 0)) := by
          injection hv with hA _ _
          injection hA with hA
          injection hA with e1 e2
          subst e1; subst e2
          rw [hcl n (by simp; omega), List.getElem?_map, List.getElem?_eq_getElem (by omega), List.getD_eq_getElem?_getD, List.getElem?_eq_getElem (by omega)]
          rfl
        have hfr := (HST.out.row.free (j := n) (by simp; omega)).1
        have hle2 : ¬ ((R.length : Int) + 1) ≤ n := by omega
        have hnl2 : (n : Int) < (R.length : Int) + 1 := by omega
        have HROW := Lib.hid (HST.out.row.setAt (j := n) (by simp; omega) (.int .i64 (IntKind.i64.wrap ((askF R qs).getD n 0 + 1))))
        have HSA : Hid ((askF R qs).set n (IntKind.i64.wrap ((askF R qs).getD n 0 + 1)) = askF R (qs ++ [d])) := Lib.hid (by rw [askF_snoc]; unfold stepA; rw [HIX.out])
        generalize (askF R qs).getD n 0 = av at *
        obtain ⟨wv, hwv⟩ : ∃ wv, IntKind.i64.wrap (av + 1) = wv := ⟨_, rfl⟩
        rw [hwv] at HROW HSA
        have hwv2 : Go.RowKit.wrap64 (av + 1) = wv := by rw [← IntWalk.i64_left]; exact hwv
        clear he hlen hv hcl
        go_upto_region 6 with (fail)
        have hc5 : Chg (fun k => k = ba) wr (wr.setCell ⟨ba, oa + n, none⟩ (.int .i64 (wv))) := (Chg.refl (fun k => k = ba) wr).setCell (a := ⟨ba, oa + n, none⟩) (.inl rfl) _
        have HST5 : Hid (OnceSt r bR bA ba oa R F (qs ++ [d]) (wr.setCell ⟨ba, oa + n, none⟩ (.int .i64 (wv)))) := Lib.hid {
          low := fun k hk => Nat.lt_of_lt_of_le (HST.out.low k hk) hc5.size
          rep := HST.out.rep.keep hc5 (fun k hk _ e => hk.2 e) (fun k hk _ => hk)
          fR := HST.out.fR
          fA := HST.out.fA
          fa := HST.out.fa
          cR := (World.cell?_of_block (hc5.block bR (block_lt k1) HST.out.nR)).trans k1
          cA := (World.cell?_of_block (hc5.block bA (block_lt k2) HST.out.nA)).trans k2
          row := by rw [← HSA.out, List.map_set]; exact HROW.out
          nR := HST.out.nR
          nA := HST.out.nA }
        have HC5 : Hid (Chg F wr (wr.setCell ⟨ba, oa + n, none⟩ (.int .i64 (wv)))) := Lib.hid (hc5.mono fun k _ h => by rw [h]; exact HST.out.fa)
        have g1 : (wr.setCell ⟨ba, oa + n, none⟩ (.int .i64 (wv))).cell? ⟨bR, 0, none⟩ = some (.pointer (some ⟨r, 0, none⟩)) := HST5.out.cR
        have g0 : (wr.setCell ⟨ba, oa + n, none⟩ (.int .i64 (wv))).cell? ⟨r, 0, none⟩ = some (.slice (some ⟨b, o, none⟩) R.length c) := (World.cell?_of_block (hc5.block r (block_lt k0) HRB.out)).trans k0
        have e0 : (wr.setCell ⟨ba, oa + n, none⟩ (.int .i64 (wv))).cell? ⟨b, o + n * 3, none⟩ = some (.int .i64 x.kd) := (World.cell?_of_block (hc5.block b (block_lt f0) hbn)).trans f0
        have e1 : (wr.setCell ⟨ba, oa + n, none⟩ (.int .i64 (wv))).cell? ⟨b, o + n * 3 + 1, none⟩ = some (.string (bk x.b)) := (World.cell?_of_block (hc5.block b (block_lt f0) hbn)).trans f1
        clear hc5 HROW hcc hfr
        generalize wr.setCell ⟨ba, oa + n, none⟩ (.int .i64 (wv)) = w5 at *
        have HZB : Hid ((bk x.b).size ≤ 140737488351300) := Lib.hid (by rw [bk_size]; exact HZ.out x (List.mem_of_getElem? HX.out))
        have HW2 := Lib.hid (show ITl w5 x.b.length (bytesOf (bk x.b)) [] w5.drew from (Below.refl _ _).drew)
        have HE0 := Lib.hid e0
        have HE1 := Lib.hid e1
        have HQ0 := Lib.hid g0
        have HQ1 := Lib.hid g1
        clear e0 e1 g0 g1 k0 k1 k2 f0 f1 f2
        refine wp_region_ph (by kernel_rfl) [16, 18] [.span 0 1, .span 0 1, .span 0 1, .span 0 1, .span 0 1, .span 0 1, .span 0 1, .span 0 1, .span 0 0, .span 0 0, .span 0 0, .span 0 0, .span 0 0, .span 0 0, .span 0 0, .span 0 0, .phase 0, .span 0 1, .phase 1, .span 2 2] [fun z9 => z9 = .pointer (some ⟨r, 0, none⟩), fun z9 => z9 = .pointer (some ⟨r, 0, none⟩), fun z9 => z9 = .pointer (some ⟨r, 0, none⟩), fun z9 => z9 = .slice (some ⟨b, o, none⟩) R.length c, fun z9 => z9 = .int .i64 (n : Int), fun z9 => z9 = .pointer (some ⟨b, o + n * 3, none⟩), fun z9 => z9 = .pointer (some ⟨b, o + n * 3, none⟩), fun z9 => z9 = .int .i64 x.kd, fun z9 => z9 = .pointer (some ⟨r, 0, none⟩), fun z9 => z9 = .pointer (some ⟨r, 0, none⟩), fun z9 => z9 = .pointer (some ⟨r, 0, none⟩), fun z9 => z9 = .slice (some ⟨b, o, none⟩) R.length c, fun z9 => z9 = .int .i64 (n : Int), fun z9 => z9 = .pointer (some ⟨b, o + n * 3, none⟩), fun z9 => z9 = .pointer (some ⟨b, o + n * 3 + 1, none⟩), fun z9 => z9 = .string (bk x.b), fun _ => True, fun z9 => z9 = .int .i64 x.kd, fun _ => True, fun z9 => z9 = .bool true] ((ITl w5 x.b.length (bytesOf (bk x.b)))) (by kernel_rfl) (by kernel_rfl) (by kernel_rfl) (by kernel_rfl) (by kernel_rfl) (by kernel_rfl) rfl rfl (HW2.out) ?steps ?done
        case steps =>
          refine ⟨?_, ?_, ?_, ?_, ?_, ?_, ?_, ?_, ?_, ?_, ?_, ?_, ?_, ?_, ?_, ?_, ?_, ?_, ?_, ?_, trivial⟩
          · intro us au w1 k0 hlo hhi ha hd hst hI
            have q1 := slot_far (t := 1) (v := .pointer (some ⟨bR, 0, none⟩)) ha (by kernel_rfl) (by kernel_rfl)
            have p1 := slot_norm q1
            clear ha hd hst
            have kk : w1.cell? ⟨bR, 0, none⟩ = some (.pointer (some ⟨r, 0, none⟩)) := ((iTl_low hI).cell (p := ⟨bR, 0, none⟩) (block_lt HQ1.out)).trans HQ1.out
            exact StepI.pure (v := .pointer (some ⟨r, 0, none⟩)) rfl rfl (by go_simp) ⟨rfl, hI⟩
          · intro us au w1 k1 hlo hhi ha hd hst hI
            have e0 := hd 0 _ (by kernel_rfl) rfl
            have q33 := slot_at (t := 33) 0 ha (by kernel_rfl) (by kernel_rfl) (by kernel_rfl) e0
            have p33 := slot_norm q33
            clear ha hd hst
            exact StepI.pure (v := .pointer (some ⟨r, 0, none⟩)) rfl rfl (by go_simp) ⟨rfl, hI⟩
          · intro us au w1 k2 hlo hhi ha hd hst hI
            have e1 := hd 1 _ (by kernel_rfl) rfl
            have q34 := slot_at (t := 34) 1 ha (by kernel_rfl) (by kernel_rfl) (by kernel_rfl) e1
            have p34 := slot_norm q34
            clear ha hd hst
            exact StepI.pure (v := .pointer (some ⟨r, 0, none⟩)) rfl rfl (by go_simp) ⟨rfl, hI⟩
          · intro us au w1 k3 hlo hhi ha hd hst hI
            have e2 := hd 2 _ (by kernel_rfl) rfl
            have q35 := slot_at (t := 35) 2 ha (by kernel_rfl) (by kernel_rfl) (by kernel_rfl) e2
            have p35 := slot_norm q35
            clear ha hd hst
            have kk : w1.cell? ⟨r, 0, none⟩ = some (.slice (some ⟨b, o, none⟩) R.length c) := ((iTl_low hI).cell (p := ⟨r, 0, none⟩) (block_lt HQ0.out)).trans HQ0.out
            exact StepI.pure (v := .slice (some ⟨b, o, none⟩) R.length c) rfl rfl (by go_simp) ⟨rfl, hI⟩
          · intro us au w1 k4 hlo hhi ha hd hst hI
            have q7 := slot_far (t := 7) (v := .int .i64 (n : Int)) ha (by kernel_rfl) (by kernel_rfl)
            have p7 := slot_norm q7
            clear ha hd hst
            exact StepI.pure (v := .int .i64 (n : Int)) rfl rfl (by go_simp) ⟨rfl, hI⟩
          · intro us au w1 k5 hlo hhi ha hd hst hI
            have e3 := hd 3 _ (by kernel_rfl) rfl
            have e4 := hd 4 _ (by kernel_rfl) rfl
            have q36 := slot_at (t := 36) 3 ha (by kernel_rfl) (by kernel_rfl) (by kernel_rfl) e3
            have p36 := slot_norm q36
            have q37 := slot_at (t := 37) 4 ha (by kernel_rfl) (by kernel_rfl) (by kernel_rfl) e4
            have p37 := slot_norm q37
            clear ha hd hst
            exact StepI.pure (v := .pointer (some ⟨b, o + n * 3, none⟩)) rfl rfl (by go_simp) ⟨rfl, hI⟩
          · intro us au w1 k6 hlo hhi ha hd hst hI
            have e5 := hd 5 _ (by kernel_rfl) rfl
            have q38 := slot_at (t := 38) 5 ha (by kernel_rfl) (by kernel_rfl) (by kernel_rfl) e5
            have p38 := slot_norm q38
            clear ha hd hst
            exact StepI.pure (v := .pointer (some ⟨b, o + n * 3, none⟩)) rfl rfl (by go_simp) ⟨rfl, hI⟩
          · intro us au w1 k7 hlo hhi ha hd hst hI
            have e6 := hd 6 _ (by kernel_rfl) rfl
            have q39 := slot_at (t := 39) 6 ha (by kernel_rfl) (by kernel_rfl) (by kernel_rfl) e6
            have p39 := slot_norm q39
            clear ha hd hst
            have kk : w1.cell? ⟨b, o + n * 3, none⟩ = some (.int .i64 x.kd) := ((iTl_low hI).cell (p := ⟨b, o + n * 3, none⟩) (block_lt HE0.out)).trans HE0.out
            exact StepI.pure (v := .int .i64 x.kd) rfl rfl (by go_simp) ⟨rfl, hI⟩
          · intro us au w1 k8 hlo hhi ha hd hst hI
            obtain rfl : k8 = 0 := by omega
            have q1 := slot_far (t := 1) (v := .pointer (some ⟨bR, 0, none⟩)) ha (by kernel_rfl) (by kernel_rfl)
            have p1 := slot_norm q1
            clear ha hd hst
            have kk : w1.cell? ⟨bR, 0, none⟩ = some (.pointer (some ⟨r, 0, none⟩)) := ((iTl_low hI).cell (p := ⟨bR, 0, none⟩) (block_lt HQ1.out)).trans HQ1.out
            exact StepI.pure (v := .pointer (some ⟨r, 0, none⟩)) rfl rfl (by go_simp) ⟨rfl, hI⟩
          · intro us au w1 k9 hlo hhi ha hd hst hI
            obtain rfl : k9 = 0 := by omega
            have e8 := hd 8 _ (by kernel_rfl) rfl
            have q41 := slot_at (t := 41) 8 ha (by kernel_rfl) (by kernel_rfl) (by kernel_rfl) e8
            have p41 := slot_norm q41
            clear ha hd hst
            exact StepI.pure (v := .pointer (some ⟨r, 0, none⟩)) rfl rfl (by go_simp) ⟨rfl, hI⟩
          · intro us au w1 k10 hlo hhi ha hd hst hI
            obtain rfl : k10 = 0 := by omega
            have e9 := hd 9 _ (by kernel_rfl) rfl
            have q42 := slot_at (t := 42) 9 ha (by kernel_rfl) (by kernel_rfl) (by kernel_rfl) e9
            have p42 := slot_norm q42
            clear ha hd hst
            exact StepI.pure (v := .pointer (some ⟨r, 0, none⟩)) rfl rfl (by go_simp) ⟨rfl, hI⟩
          · intro us au w1 k11 hlo hhi ha hd hst hI
            obtain rfl : k11 = 0 := by omega
            have e10 := hd 10 _ (by kernel_rfl) rfl
            have q43 := slot_at (t := 43) 10 ha (by kernel_rfl) (by kernel_rfl) (by kernel_rfl) e10
            have p43 := slot_norm q43
            clear ha hd hst
            have kk : w1.cell? ⟨r, 0, none⟩ = some (.slice (some ⟨b, o, none⟩) R.length c) := ((iTl_low hI).cell (p := ⟨r, 0, none⟩) (block_lt HQ0.out)).trans HQ0.out
            exact StepI.pure (v := .slice (some ⟨b, o, none⟩) R.length c) rfl rfl (by go_simp) ⟨rfl, hI⟩
          · intro us au w1 k12 hlo hhi ha hd hst hI
            obtain rfl : k12 = 0 := by omega
            have q7 := slot_far (t := 7) (v := .int .i64 (n : Int)) ha (by kernel_rfl) (by kernel_rfl)
            have p7 := slot_norm q7
            clear ha hd hst
            exact StepI.pure (v := .int .i64 (n : Int)) rfl rfl (by go_simp) ⟨rfl, hI⟩
          · intro us au w1 k13 hlo hhi ha hd hst hI
            obtain rfl : k13 = 0 := by omega
            have e11 := hd 11 _ (by kernel_rfl) rfl
            have e12 := hd 12 _ (by kernel_rfl) rfl
            have q44 := slot_at (t := 44) 11 ha (by kernel_rfl) (by kernel_rfl) (by kernel_rfl) e11
            have p44 := slot_norm q44
            have q45 := slot_at (t := 45) 12 ha (by kernel_rfl) (by kernel_rfl) (by kernel_rfl) e12
            have p45 := slot_norm q45
            clear ha hd hst
            exact StepI.pure (v := .pointer (some ⟨b, o + n * 3, none⟩)) rfl rfl (by go_simp) ⟨rfl, hI⟩
          · intro us au w1 k14 hlo hhi ha hd hst hI
            obtain rfl : k14 = 0 := by omega
            have e13 := hd 13 _ (by kernel_rfl) rfl
            have q46 := slot_at (t := 46) 13 ha (by kernel_rfl) (by kernel_rfl) (by kernel_rfl) e13
            have p46 := slot_norm q46
            clear ha hd hst
            exact StepI.pure (v := .pointer (some ⟨b, o + n * 3 + 1, none⟩)) rfl rfl (by go_simp) ⟨rfl, hI⟩
          · intro us au w1 k15 hlo hhi ha hd hst hI
            obtain rfl : k15 = 0 := by omega
            have e14 := hd 14 _ (by kernel_rfl) rfl
            have q47 := slot_at (t := 47) 14 ha (by kernel_rfl) (by kernel_rfl) (by kernel_rfl) e14
            have p47 := slot_norm q47
            clear ha hd hst
            have kk : w1.cell? ⟨b, o + n * 3 + 1, none⟩ = some (.string (bk x.b)) := ((iTl_low hI).cell (p := ⟨b, o + n * 3 + 1, none⟩) (block_lt HE1.out)).trans HE1.out
            exact StepI.pure (v := .string (bk x.b)) rfl rfl (by go_simp) ⟨rfl, hI⟩
          · intro us au w1 ha hd hst hI
            have e15 := hd 15 _ (by kernel_rfl) rfl
            have q48 := slot_at (t := 48) 15 ha (by kernel_rfl) (by kernel_rfl) (by kernel_rfl) e15
            have p48 := slot_norm q48
            clear ha hd hst
            obtain ⟨A, cap, w6, hr, ho, hge, hcm, hb5⟩ := run_convO w1 (bk x.b) HZB.out
            rw [bk_size] at hr ho hge
            exact StepI.runs (v := .slice A x.b.length cap) (w' := w6) rfl rfl (by go_simp) ⟨trivial, Below.trans hI (hb5.mono (Below.size hI)), A, cap, rfl, ho.ints, hge, hcm, ho.nilLen⟩
          · intro us au w1 k17 hlo hhi ha hd hst hI
            have e7 := hd 7 _ (by kernel_rfl) rfl
            have q40 := slot_at (t := 40) 7 ha (by kernel_rfl) (by kernel_rfl) (by kernel_rfl) e7
            have p40 := slot_norm q40
            clear ha hd hst
            exact StepI.pure (v := .int .i64 x.kd) rfl rfl (by go_simp) ⟨rfl, hI⟩
          · intro us au w1 ha hd hst hI
            obtain ⟨e16⟩ := hd 16 _ (by kernel_rfl) rfl
            have q49 := slot_at (t := 49) 16 ha (by kernel_rfl) (by kernel_rfl) (by kernel_rfl) (Eq.refl (us 16))
            have p49 := slot_norm q49
            clear ha hd hst
            obtain ⟨hb, A, c, hv, h⟩ := hI
            rw [hv] at p49
            exact StepI.pure (v := .slice A x.b.length c) rfl rfl (by go_simp) ⟨trivial, hb, A, c, rfl, h⟩
          · intro us au w1 k19 hlo hhi ha hd hst hI
            obtain rfl : k19 = 2 := by omega
            clear ha hd hst
            exact StepI.pure (v := .bool true) rfl rfl (by go_simp) ⟨rfl, hI⟩
        case done =>
          intro us w1 hI hd
          obtain ⟨hb, A9, c9, hv, hI5, hc5, hm5, hn5⟩ := hI
          have e17 := hd 17 _ (by show 17 < 20; decide) rfl
          have e19 := hd 19 _ (by show 19 < 20; decide) rfl
          have HI5 := Lib.hid hI5
          have HW5 := Lib.hid hb
          have HCX := Lib.hid (And.intro hc5 (And.intro hm5 hn5))
          clear hd hb hI5 hc5 hm5 hn5
          simp only [putAll, hv, e17, e19]
          go_simp
          go_wp2
          go_ret3
          refine ⟨F, HST5.out.keep (Chg.of_below (S := fun k => w5.heap.size ≤ k) HW5.out) (fun k hk => Nat.not_le.2 (HST5.out.low k hk)), HC5.out.trans (Chg.of_below (S := fun _ => False) HW5.out) (fun _ _ h => h.elim), fun k hk => .inl hk, ?_⟩
          rw [HRR.out]
          exact ⟨A9, c9, rfl, HI5.out, HCX.out.1, HCX.out.2.1, HCX.out.2.2⟩
      · have q1 : ((bk x.id).toList == (bk d).toList) = false := by rw [Lib.toList_data, Lib.toList_data, bk_list, bk_list, beq_eq_false_iff_ne]; exact he
        have HNX : Hid (∀ j y, j < n + 1 → R[j]? = some y → y.id ≠ d) := Lib.hid (fun j y hj hy => by
          rcases Nat.lt_or_ge j n with h | h
          · exact HNO.out j y h hy
          · obtain rfl : j = n := by omega
            rw [HX.out] at hy
            injection hy with hy
            rw [← hy]; exact he)
        have hw : IntKind.i64.wrap ((n : Int) + 1) = (n : Int) + 1 := IntWalk.i64_in _ (by have := HL.out; omega)
        clear he
        go_wp2
        go_roundw
        case rel => exact ⟨n + 1, rfl, hlt, by first | rfl | trivial, HNX.out⟩
        case measure => simp [intOf]; omega
    · have d1 : decide ((n : Int) < (R.length : Int)) = false := decide_eq_false (by omega)
      have d1' : decide (n < R.length) = false := decide_eq_false hlt
      have HRR : Hid (getK R d = none) := Lib.hid (getK_no fun j x hj => HNO.out j x (by omega))
      have HIX : Hid (idxK R d = none) := Lib.hid (idxK_none fun j x hj => HNO.out j x (by omega))
      clear hn hlt
      go_wp2
      go_ret3
      have hq : askF R (qs ++ [d]) = askF R qs := by rw [askF_snoc]; unfold stepA; rw [HIX.out]
      refine ⟨F, ?_, Chg.refl _ _, fun k hk => .inl hk, by rw [HRR.out]; rfl⟩
      exact { HST.out with row := by rw [hq]; exact HST.out.row }
theorem getter_once (r bR bA ba oa : Nat) (R : List Kn) (hl : R.length ≤ 1073741824) (hz : ∀ x ∈ R, x.b.length ≤ 140737488351300) :
    Getter 21 (.pointer (some ⟨bR, 0, none⟩)) (.pointer (some ⟨bA, 0, none⟩)) (getK R) (OnceSt r bR bA ba oa R) where
  ent := fun W args => enters_of Tryz.func21 (by kernel_rfl) rfl _ _
  low := fun h => h.low
  keep := fun h hc hS => h.keep hc hS
  call := fun {F qs w} d h => once1_any w F r bR bA ba oa R qs d h hl hz
end Go.Proofs.YtihanglnjghcfaaGreatDoor
