/- The document's object in memory (printed by genobp.py). -/
import Derived.Test.YtdlabapfcghfmaaGreatDoorRgA
import Derived.Test.YtdlabapfcghfmaaGreatDoorPh
import Derived.Test.YtdlabapfcghfmaaGreatDoorRgE
namespace Go.Proofs.YtdlabapfcghfmaaGreatDoor
open Go.RowKit
set_option linter.unusedVariables false
set_option linter.unusedSimpArgs false

/-- The document's object in memory. -/
structure O8At (w : World) (b : Nat) (kd : Int) (d : ByteArray) (vL : Value) (t : ByteArray) (vP : Value) (a c o n : ByteArray) (ty : Int) (g m : ByteArray) : Prop where
  c0 : w.cell? ⟨b, 0, none⟩ = some (.int .i64 kd)
  c1 : w.cell? ⟨b, 1, none⟩ = some (.string d)
  c2 : w.cell? ⟨b, 2, none⟩ = some (vL)
  c3 : w.cell? ⟨b, 3, none⟩ = some (.string t)
  c4 : w.cell? ⟨b, 4, none⟩ = some (vP)
  c5 : w.cell? ⟨b, 5, none⟩ = some (.string a)
  c6 : w.cell? ⟨b, 6, none⟩ = some (.string c)
  c7 : w.cell? ⟨b, 7, none⟩ = some (.string o)
  c8 : w.cell? ⟨b, 8, none⟩ = some (.string n)
  c9 : w.cell? ⟨b, 9, none⟩ = some (.int .i64 ty)
  c10 : w.cell? ⟨b, 10, none⟩ = some (.string g)
  c11 : w.cell? ⟨b, 11, none⟩ = some (.string m)
theorem O8At.lt {w : World} {b : Nat} {kd : Int} {d : ByteArray} {vL : Value} {t : ByteArray} {vP : Value} {a c o n : ByteArray} {ty : Int} {g m : ByteArray} (h : O8At w b kd d vL t vP a c o n ty g m) : b < w.heap.size := World.block_lt_of_cell? w _ h.c0
theorem O8At.below {w w' : World} {b : Nat} {kd : Int} {d : ByteArray} {vL : Value} {t : ByteArray} {vP : Value} {a c o n : ByteArray} {ty : Int} {g m : ByteArray} (h : O8At w b kd d vL t vP a c o n ty g m) (hb : Below w.heap.size w w') : O8At w' b kd d vL t vP a c o n ty g m :=
  ⟨by rw [hb.cell h.lt]; exact h.c0, by rw [hb.cell h.lt]; exact h.c1, by rw [hb.cell h.lt]; exact h.c2, by rw [hb.cell h.lt]; exact h.c3, by rw [hb.cell h.lt]; exact h.c4, by rw [hb.cell h.lt]; exact h.c5, by rw [hb.cell h.lt]; exact h.c6, by rw [hb.cell h.lt]; exact h.c7, by rw [hb.cell h.lt]; exact h.c8, by rw [hb.cell h.lt]; exact h.c9, by rw [hb.cell h.lt]; exact h.c10, by rw [hb.cell h.lt]; exact h.c11⟩
theorem O8At.new (w : World) (kd : Int) (d : ByteArray) (vL : Value) (t : ByteArray) (vP : Value) (a c o n : ByteArray) (ty : Int) (g m : ByteArray) : O8At (w.alloc (.cells #[.int .i64 kd, .string d, vL, .string t, vP, .string a, .string c, .string o, .string n, .int .i64 ty, .string g, .string m] 50)) w.heap.size kd d vL t vP a c o n ty g m :=
  ⟨by rw [World.cell?_alloc_at _ _ _ _ (by simp)]; rfl, by rw [World.cell?_alloc_at _ _ _ _ (by simp)]; rfl, by rw [World.cell?_alloc_at _ _ _ _ (by simp)]; rfl, by rw [World.cell?_alloc_at _ _ _ _ (by simp)]; rfl, by rw [World.cell?_alloc_at _ _ _ _ (by simp)]; rfl, by rw [World.cell?_alloc_at _ _ _ _ (by simp)]; rfl, by rw [World.cell?_alloc_at _ _ _ _ (by simp)]; rfl, by rw [World.cell?_alloc_at _ _ _ _ (by simp)]; rfl, by rw [World.cell?_alloc_at _ _ _ _ (by simp)]; rfl, by rw [World.cell?_alloc_at _ _ _ _ (by simp)]; rfl, by rw [World.cell?_alloc_at _ _ _ _ (by simp)]; rfl, by rw [World.cell?_alloc_at _ _ _ _ (by simp)]; rfl⟩
end Go.Proofs.YtdlabapfcghfmaaGreatDoor
namespace Go.Proofs.YtdlabapfcghfmaaGreatDoor
open Go.RowKit
set_option linter.unusedVariables false
set_option linter.unusedSimpArgs false

set_option maxRecDepth 100000 in
set_option maxHeartbeats 4000000 in
theorem makeTree_any (d : ByteArray) (AA : Option Addr) (NN CC : Nat) (t : ByteArray) (vP : Value) (a c o n : ByteArray) (ty : Int) (g m : ByteArray) (w : World) :
    Calls Tryz.prog 19 #[.agg #[.int .i64 2, .string d, .slice AA NN CC, .string t, vP, .string a, .string c, .string o, .string n, .int .i64 ty, .string g, .string m]] w fun e w' => e = .returned (.iface 36 (.agg #[.slice AA NN CC])) ∧ Below w.heap.size w w' := by
  have hl0 : Below w.heap.size w (w.alloc (.cells #[.int .i64 2, .string d, .slice AA NN CC, .string t, vP, .string a, .string c, .string o, .string n, .int .i64 ty, .string g, .string m] 50)) := (Below.refl _ _).alloc (Nat.le_refl _) _
  have ho0 := O8At.new w 2 d (.slice AA NN CC) t vP a c o n ty g m
  go_enter Tryz.func19, Tryz.ntmps19
  go_upto_region 1 with (fail)
  generalize w.alloc (.cells #[.int .i64 2, .string d, .slice AA NN CC, .string t, vP, .string a, .string c, .string o, .string n, .int .i64 ty, .string g, .string m] 50) = w0 at *
  have k0 := ho0.c0
  have k1 := ho0.c1
  have k2 := ho0.c2
  have k3 := ho0.c3
  have k4 := ho0.c4
  have k5 := ho0.c5
  have k6 := ho0.c6
  have k7 := ho0.c7
  have k8 := ho0.c8
  have k9 := ho0.c9
  have k10 := ho0.c10
  have k11 := ho0.c11
  have HL := Lib.hid hl0
  clear ho0 hl0
  go_wp2
  go_ret
  exact ⟨rfl, HL.out⟩
set_option maxRecDepth 100000 in
set_option maxHeartbeats 4000000 in
theorem makeCommit_any (d : ByteArray) (vL : Value) (t : ByteArray) (AA : Option Addr) (NN CC : Nat) (a c o n : ByteArray) (ty : Int) (g m : ByteArray) (w : World) :
    Calls Tryz.prog 19 #[.agg #[.int .i64 1, .string d, vL, .string t, .slice AA NN CC, .string a, .string c, .string o, .string n, .int .i64 ty, .string g, .string m]] w fun e w' => e = .returned (.iface 44 (.agg #[.string t, .slice AA NN CC, .string a, .string c, .string m])) ∧ Below w.heap.size w w' := by
  have hl0 : Below w.heap.size w (w.alloc (.cells #[.int .i64 1, .string d, vL, .string t, .slice AA NN CC, .string a, .string c, .string o, .string n, .int .i64 ty, .string g, .string m] 50)) := (Below.refl _ _).alloc (Nat.le_refl _) _
  have ho0 := O8At.new w 1 d vL t (.slice AA NN CC) a c o n ty g m
  go_enter Tryz.func19, Tryz.ntmps19
  go_upto_region 1 with (fail)
  generalize w.alloc (.cells #[.int .i64 1, .string d, vL, .string t, .slice AA NN CC, .string a, .string c, .string o, .string n, .int .i64 ty, .string g, .string m] 50) = w0 at *
  have k0 := ho0.c0
  have k1 := ho0.c1
  have k2 := ho0.c2
  have k3 := ho0.c3
  have k4 := ho0.c4
  have k5 := ho0.c5
  have k6 := ho0.c6
  have k7 := ho0.c7
  have k8 := ho0.c8
  have k9 := ho0.c9
  have k10 := ho0.c10
  have k11 := ho0.c11
  have HL := Lib.hid hl0
  clear ho0 hl0
  go_wp2
  go_ret
  exact ⟨rfl, HL.out⟩
set_option maxRecDepth 100000 in
set_option maxHeartbeats 4000000 in
theorem makeTag_any (d : ByteArray) (vL : Value) (t : ByteArray) (vP : Value) (a c o n : ByteArray) (ty : Int) (g m : ByteArray) (w : World) :
    Calls Tryz.prog 19 #[.agg #[.int .i64 4, .string d, vL, .string t, vP, .string a, .string c, .string o, .string n, .int .i64 ty, .string g, .string m]] w fun e w' => e = .returned (.iface 91 (.agg #[.string o, .int .i64 ty, .string n, .string g, .string m])) ∧ Below w.heap.size w w' := by
  have hl0 : Below w.heap.size w (w.alloc (.cells #[.int .i64 4, .string d, vL, .string t, vP, .string a, .string c, .string o, .string n, .int .i64 ty, .string g, .string m] 50)) := (Below.refl _ _).alloc (Nat.le_refl _) _
  have ho0 := O8At.new w 4 d vL t vP a c o n ty g m
  go_enter Tryz.func19, Tryz.ntmps19
  go_upto_region 1 with (fail)
  generalize w.alloc (.cells #[.int .i64 4, .string d, vL, .string t, vP, .string a, .string c, .string o, .string n, .int .i64 ty, .string g, .string m] 50) = w0 at *
  have k0 := ho0.c0
  have k1 := ho0.c1
  have k2 := ho0.c2
  have k3 := ho0.c3
  have k4 := ho0.c4
  have k5 := ho0.c5
  have k6 := ho0.c6
  have k7 := ho0.c7
  have k8 := ho0.c8
  have k9 := ho0.c9
  have k10 := ho0.c10
  have k11 := ho0.c11
  have HL := Lib.hid hl0
  clear ho0 hl0
  go_wp2
  go_ret
  exact ⟨rfl, HL.out⟩
set_option maxRecDepth 100000 in
set_option maxHeartbeats 4000000 in
theorem makeBlob_any (d : ByteArray) (vL : Value) (t : ByteArray) (vP : Value) (a c o n : ByteArray) (ty : Int) (g m : ByteArray) (w : World) (hd : d.size ≤ 140737488351300) :
    Calls Tryz.prog 19 #[.agg #[.int .i64 3, .string d, vL, .string t, vP, .string a, .string c, .string o, .string n, .int .i64 ty, .string g, .string m]] w fun e w' => ∃ A c, e = .returned (.iface 71 (.agg #[.slice A d.size c])) ∧ OwnS w' w.heap.size 5 1 (.slice A d.size c) d.size ((bytesOf d).map (Value.int .u8)) ∧ (A = none → d.size = 0) ∧ Below w.heap.size w w' := by
  have hl0 : Below w.heap.size w (w.alloc (.cells #[.int .i64 3, .string d, vL, .string t, vP, .string a, .string c, .string o, .string n, .int .i64 ty, .string g, .string m] 50)) := (Below.refl _ _).alloc (Nat.le_refl _) _
  have ho0 := O8At.new w 3 d vL t vP a c o n ty g m
  go_enter Tryz.func19, Tryz.ntmps19
  go_upto_region 1 with (fail)
  generalize w.alloc (.cells #[.int .i64 3, .string d, vL, .string t, vP, .string a, .string c, .string o, .string n, .int .i64 ty, .string g, .string m] 50) = w0 at *
  have k0 := ho0.c0
  have k1 := ho0.c1
  have k2 := ho0.c2
  have k3 := ho0.c3
  have k4 := ho0.c4
  have k5 := ho0.c5
  have k6 := ho0.c6
  have k7 := ho0.c7
  have k8 := ho0.c8
  have k9 := ho0.c9
  have k10 := ho0.c10
  have k11 := ho0.c11
  have HL := Lib.hid hl0
  clear ho0 hl0
  have HG : Hid (w.heap.size ≤ w0.heap.size) := Lib.hid HL.out.size
  go_wp2_with (refine wpList_convO rfl (.tmp 40) rfl d d.size (bytesOf d) rfl rfl rfl hd ?_; intro A9 c9 w9 ho9 hc9 hm9 hb9)
  go_ret
  exact ⟨A9, c9, rfl, ho9.base_ HG.out, (fun h => by subst h; rcases ho9.2 with ⟨hv, hx⟩ | ⟨g, off, cap, cur, hv, _⟩ <;> injection hv with h1 h2 h3 <;> first | exact h2 | cases h1), HL.out.trans (hb9.mono HG.out)⟩
theorem kindTree (v : Value) (w : World) : Calls Tryz.prog 161 #[.agg #[v]] w fun e w' => e = .returned (.int .i64 2) ∧ Below w.heap.size w w' := by
  go_enter Tryz.func161, Tryz.ntmps161
  go_wp2
  go_ret
  exact ⟨rfl, (Below.refl _ _).alloc (Nat.le_refl _) _⟩
theorem kindBlob (v : Value) (w : World) : Calls Tryz.prog 167 #[.agg #[v]] w fun e w' => e = .returned (.int .i64 3) ∧ Below w.heap.size w w' := by
  go_enter Tryz.func167, Tryz.ntmps167
  go_wp2
  go_ret
  exact ⟨rfl, (Below.refl _ _).alloc (Nat.le_refl _) _⟩
theorem kindCommit (v0 v1 v2 v3 v4 : Value) (w : World) : Calls Tryz.prog 164 #[.agg #[v0, v1, v2, v3, v4]] w fun e w' => e = .returned (.int .i64 1) ∧ Below w.heap.size w w' := by
  go_enter Tryz.func164, Tryz.ntmps164
  go_wp2
  go_ret
  exact ⟨rfl, (Below.refl _ _).alloc (Nat.le_refl _) _⟩
theorem kindTag (v0 v1 v2 v3 v4 : Value) (w : World) : Calls Tryz.prog 171 #[.agg #[v0, v1, v2, v3, v4]] w fun e w' => e = .returned (.int .i64 4) ∧ Below w.heap.size w w' := by
  go_enter Tryz.func171, Tryz.ntmps171
  go_wp2
  go_ret
  exact ⟨rfl, (Below.refl _ _).alloc (Nat.le_refl _) _⟩
end Go.Proofs.YtdlabapfcghfmaaGreatDoor
namespace Go.Proofs.YtdlabapfcghfmaaGreatDoor
open Go.RowKit
set_option linter.unusedVariables false
set_option linter.unusedSimpArgs false

theorem field_fwd (nm x r : List UInt8) (hn : (10 : UInt8) ∉ nm) (hx : (10 : UInt8) ∉ x) : fieldL nm (nm ++ [32] ++ x ++ [10] ++ r) = some (x, r) := by
  have e : nm ++ [32] ++ x ++ [10] ++ r = (nm ++ [32] ++ x) ++ ([10] ++ r) := by rw [List.append_assoc (nm ++ [32] ++ x)]
  have hl : (nm ++ [32] ++ x).length = nm.length + 1 + x.length := by simp; omega
  have hi : ((nm ++ [32] ++ x) ++ ([10] ++ r))[nm.length + 1 + x.length]? = some 10 := by
    rw [List.getElem?_append_right (by omega), hl, Nat.sub_self]; rfl
  rw [e, fieldL_line nm _ hn _ hi (fun j hj => ?_)]
  · rw [List.take_left' hl, if_pos ⟨by omega, by rw [List.take_left' (by simp)]⟩]
    rw [show nm ++ [32] ++ x = (nm ++ [32]) ++ x from rfl, List.drop_left' (by simp)]
    rw [show nm ++ [32] ++ x ++ ([10] ++ r) = (nm ++ [32] ++ x ++ [10]) ++ r by rw [List.append_assoc (nm ++ [32] ++ x)], List.drop_left' (by rw [List.length_append, hl]; rfl)]
  · rw [List.getElem?_append_left (by omega)]
    intro h
    have hm := List.mem_of_getElem? h
    simp only [List.mem_append, List.mem_singleton] at hm
    rcases hm with (hm | hm) | hm
    · exact hn hm
    · exact absurd hm (by decide)
    · exact hx hm
theorem field_not (nm l : List UInt8) (b c : UInt8) (hb : ∃ q, nm = b :: q) (hc : ∃ q, l = c :: q) (hne : b ≠ c) : fieldL nm l = none := by
  obtain ⟨q, rfl⟩ := hb
  obtain ⟨q', rfl⟩ := hc
  unfold fieldL
  rw [if_neg]
  intro h
  have := (hasPrefix_iff _ _).1 h
  simp at this
  exact hne this.1.symm
theorem pars_fwd (rest : List UInt8) (hr : fieldL parentN rest = none) : ∀ (P : List (List UInt8)) (f : Nat) (acc Q : List (List UInt8)) (r : List UInt8), (∀ p ∈ P, (10 : UInt8) ∉ p) → parsF f (P.flatMap parU ++ rest) acc = some (Q, r) → Q = acc ++ P ∧ r = rest
  | [], 0, acc, Q, r, _, h => by simp [parsF] at h
  | [], f + 1, acc, Q, r, _, h => by
    rw [List.flatMap_nil, List.nil_append, parsF, hr] at h
    injection h with h
    injection h with h1 h2
    rw [List.append_nil]
    exact ⟨h1.symm, h2.symm⟩
  | p :: P, 0, acc, Q, r, _, h => by simp [parsF] at h
  | p :: P, f + 1, acc, Q, r, hp, h => by
    have e : (p :: P).flatMap parU ++ rest = parentN ++ [32] ++ p ++ [10] ++ (P.flatMap parU ++ rest) := by rw [List.flatMap_cons]; unfold parU; simp only [List.append_assoc]
    rw [e, parsF, field_fwd parentN p _ (by decide) (hp p (List.mem_cons_self ..))] at h
    simp only at h
    split at h
    · exact absurd h (by simp)
    · obtain ⟨h1, h2⟩ := pars_fwd rest hr P f (acc ++ [p]) Q r (fun q hq => hp q (List.mem_cons_of_mem _ hq)) h
      exact ⟨by rw [h1, List.append_assoc]; rfl, h2⟩
theorem msg_fwd {m m' : List UInt8} (h : msgF ([10] ++ m) = some m') : m' = m := by
  unfold msgF at h
  simp only [List.singleton_append] at h
  split at h
  · injection h with h
    exact h.symm
  · exact absurd h (by simp)
theorem commit_fwd (R : CommitR) (r : CommitR) (h : commitF (commitU R) = some r) (ht : (10 : UInt8) ∉ R.t) (hP : ∀ p ∈ R.P, (10 : UInt8) ∉ p) (ha : (10 : UInt8) ∉ R.a) (hc : (10 : UInt8) ∉ R.c) : r = R := by
  obtain ⟨t, P, a, c, m⟩ := R
  simp only at ht hP ha hc
  have e : commitU ⟨t, P, a, c, m⟩ = treeN ++ [32] ++ t ++ [10] ++ (P.flatMap parU ++ (authorN ++ [32] ++ a ++ [10] ++ (committerN ++ [32] ++ c ++ [10] ++ ([10] ++ m)))) := by unfold commitU; simp only [List.append_assoc]
  rw [e] at h
  unfold commitF at h
  rw [field_fwd treeN t _ (by decide) ht] at h
  simp only at h
  split at h
  · exact absurd h (by simp)
  · cases hp : parsF ((P.flatMap parU ++ (authorN ++ [32] ++ a ++ [10] ++ (committerN ++ [32] ++ c ++ [10] ++ ([10] ++ m)))).length + 1) (P.flatMap parU ++ (authorN ++ [32] ++ a ++ [10] ++ (committerN ++ [32] ++ c ++ [10] ++ ([10] ++ m)))) [] with
    | none => rw [hp] at h; exact absurd h (by simp)
    | some q =>
      obtain ⟨Q, l2⟩ := q
      rw [hp] at h
      have hno : fieldL parentN (authorN ++ [32] ++ a ++ [10] ++ (committerN ++ [32] ++ c ++ [10] ++ ([10] ++ m))) = none := field_not parentN _ 112 97 ⟨_, rfl⟩ ⟨_, rfl⟩ (by decide)
      obtain ⟨rfl, rfl⟩ := pars_fwd _ hno P _ [] Q l2 hP hp
      simp only at h
      rw [field_fwd authorN a _ (by decide) ha] at h
      simp only at h
      split at h
      · exact absurd h (by simp)
      · rw [field_fwd committerN c _ (by decide) hc] at h
        simp only at h
        split at h
        · exact absurd h (by simp)
        · cases hm : msgF ([10] ++ m) with
          | none => rw [hm] at h; exact absurd h (by simp)
          | some m' =>
            rw [hm] at h
            have := msg_fwd hm
            subst this
            injection h with h
            rw [← h]
theorem kindN_of {ty : Int} (h : ¬ kindN (strOfNums (nameL ty)) = 0) : ((kindN (strOfNums (nameL ty)) : Nat) : Int) = ty := by
  by_cases h1 : 1 ≤ ty ∧ ty ≤ 4
  · have : ty = 1 ∨ ty = 2 ∨ ty = 3 ∨ ty = 4 := by omega
    rcases this with rfl | rfl | rfl | rfl <;> decide +kernel
  · exfalso
    apply h
    have e : nameL ty = [] := by
      unfold nameL
      repeat' split
      all_goals first | rfl | omega
    rw [e]
    decide +kernel
theorem tag_fwd (o n g m : List UInt8) (ty : Int) (r : TagR) (h : tagF (objectN ++ [32] ++ o ++ [10] ++ (typeN ++ [32] ++ (strOfNums (nameL ty)).data.toList ++ [10] ++ (tagN ++ [32] ++ n ++ [10] ++ (taggerN ++ [32] ++ g ++ [10] ++ ([10] ++ m))))) = some r)
    (ho : (10 : UInt8) ∉ o) (hn : (10 : UInt8) ∉ n) (hg : (10 : UInt8) ∉ g) : r.o = o ∧ (r.k : Int) = ty ∧ r.n = n ∧ r.g = g ∧ r.m = m := by
  have hk : (10 : UInt8) ∉ (strOfNums (nameL ty)).data.toList := by
    unfold nameL
    repeat' split
    all_goals decide +kernel
  unfold tagF at h
  rw [field_fwd objectN o _ (by decide) ho] at h
  simp only at h
  split at h
  · exact absurd h (by simp)
  · rw [field_fwd typeN _ _ (by decide) hk] at h
    simp only at h
    rw [bk_of] at h
    split at h
    · exact absurd h (by simp)
    · next hkn =>
      rw [field_fwd tagN n _ (by decide) hn] at h
      simp only at h
      split at h
      · exact absurd h (by simp)
      · rw [field_fwd taggerN g _ (by decide) hg] at h
        simp only at h
        split at h
        · exact absurd h (by simp)
        · cases hm : msgF ([10] ++ m) with
          | none => rw [hm] at h; exact absurd h (by simp)
          | some m' =>
            rw [hm] at h
            have := msg_fwd hm
            subst this
            injection h with h
            rw [← h]
            exact ⟨rfl, kindN_of hkn, rfl, rfl, rfl⟩
end Go.Proofs.YtdlabapfcghfmaaGreatDoor
namespace Go.Proofs.YtdlabapfcghfmaaGreatDoor
open Go.RowKit
set_option linter.unusedVariables false
set_option linter.unusedSimpArgs false

set_option maxRecDepth 100000 in
set_option maxHeartbeats 2000000 in
/-- texts: two lists that are the same. -/
theorem texts_any (A B : Option Addr) (n c d : Nat) (P : List ByteArray) (w : World) (hA : StrsAt w A P) (hB : StrsAt w B P) (hn : P.length = n) (hs : n ≤ 1099511627776) (hz : ∀ p ∈ P, p.size ≤ 140737488351300) :
    Calls Tryz.prog 47 #[.slice A n c, .slice B n d] w fun e w' => e = .returned (.bool true) ∧ Below w.heap.size w w' := by
  have HA := Lib.hid hA
  have HB := Lib.hid hB
  have HN := Lib.hid hn
  clear hA hB hn
  have hnn : (n == n) = true := by rw [beq_iff_eq]
  go_enter Tryz.func47, Tryz.ntmps47
  go_wp2
  go_loopw [5] (fun vi wr => ∃ k : Nat, vi = .int .i64 k ∧ k ≤ n ∧ Below w.heap.size w wr) (fun vi _ => n - (intOf vi).toNat)
  case atStart => exact ⟨0, rfl, Nat.zero_le _, Below.refl _ _⟩
  case round =>
    obtain ⟨k, rfl, hk, hb⟩ := hrel
    by_cases hlt : k < n
    · obtain ⟨p, hp⟩ : ∃ p, P[k]? = some p := ⟨_, List.getElem?_eq_getElem (by rw [HN.out]; exact hlt)⟩
      obtain ⟨ga, oa, rfl, hga, ca⟩ := (HA.out.below hb) (by rw [HN.out]; omega)
      obtain ⟨gb, ob, rfl, hgb, cb⟩ := (HB.out.below hb) (by rw [HN.out]; omega)
      have r0 := ca k p hp
      have r1 := cb k p hp
      have d2 : decide ((k : Int) < (n : Int)) = true := decide_eq_true (by omega)
      have d2' : decide (k < n) = true := decide_eq_true hlt
      have HBB := Lib.hid hb
      have hps := hz p (List.mem_of_getElem? hp)
      clear ca cb hga hgb hb hp
      go_upto_region 6 with (fail)
      refine wp_region_still_lit (by kernel_rfl) (by kernel_rfl) ?_
      repeat still_step
      refine wpStill_nil ?_
      have HBD := Lib.hid (HBB.out.drew)
      go_wp2
      go_roundw
      case rel => exact ⟨k + 1, rfl, by omega, HBD.out⟩
      case measure => simp [intOf]; omega
    · obtain rfl : n = k := by omega
      have d2 : decide ((n : Int) < (n : Int)) = false := decide_eq_false (by omega)
      have d2' : decide (n < n) = false := decide_eq_false (by omega)
      go_wp2
      go_ret
      exact ⟨rfl, hb⟩
theorem ta_bb (W : World) (x : Value) : (Instr.typeAssert (.iface 71 (.agg #[x])) 31 71 true).run Tryz.prog W = .ok (.tuple #[.agg #[x], .bool true]) W := by kernel_rfl
theorem ta_cb (W : World) (x : Value) : (Instr.typeAssert (.iface 44 x) 31 71 true).run Tryz.prog W = .ok (.tuple #[.agg #[.slice none 0 0], .bool false]) W := by kernel_rfl
theorem ta_ct (W : World) (x : Value) : (Instr.typeAssert (.iface 44 x) 31 36 true).run Tryz.prog W = .ok (.tuple #[.agg #[.slice none 0 0], .bool false]) W := by kernel_rfl
theorem ta_cc (W : World) (x : Value) : (Instr.typeAssert (.iface 44 x) 31 44 true).run Tryz.prog W = .ok (.tuple #[x, .bool true]) W := by kernel_rfl
theorem ta_gb (W : World) (x : Value) : (Instr.typeAssert (.iface 91 x) 31 71 true).run Tryz.prog W = .ok (.tuple #[.agg #[.slice none 0 0], .bool false]) W := by kernel_rfl
theorem ta_gt (W : World) (x : Value) : (Instr.typeAssert (.iface 91 x) 31 36 true).run Tryz.prog W = .ok (.tuple #[.agg #[.slice none 0 0], .bool false]) W := by kernel_rfl
theorem ta_gc (W : World) (x : Value) : (Instr.typeAssert (.iface 91 x) 31 44 true).run Tryz.prog W = .ok (.tuple #[.agg #[.string ⟨#[]⟩, .slice none 0 0, .string ⟨#[]⟩, .string ⟨#[]⟩, .string ⟨#[]⟩], .bool false]) W := by kernel_rfl
theorem ta_gg (W : World) (x : Value) : (Instr.typeAssert (.iface 91 x) 31 91 true).run Tryz.prog W = .ok (.tuple #[x, .bool true]) W := by kernel_rfl
set_option maxRecDepth 100000 in
set_option maxHeartbeats 4000000 in
theorem sameBlob_any (A : Option Addr) (n c : Nat) (d : ByteArray) (vL : Value) (t : ByteArray) (vP : Value) (a : ByteArray) (cm : ByteArray) (o : ByteArray) (nm : ByteArray) (ty : Int) (g : ByteArray) (m : ByteArray) (w : World) (hI : Ints .u8 w A (bytesOf d)) (hn : (bytesOf d).length = n) :
    Calls Tryz.prog 21 #[.iface 71 (.agg #[.slice A n c]), .agg #[.int .i64 3, .string d, vL, .string t, vP, .string a, .string cm, .string o, .string nm, .int .i64 ty, .string g, .string m]] w fun e w' => e = .returned (.bool true) ∧ Below w.heap.size w w' := by
  have hl0 : Below w.heap.size w (w.alloc (.cells #[.int .i64 3, .string d, vL, .string t, vP, .string a, .string cm, .string o, .string nm, .int .i64 ty, .string g, .string m] 50)) := (Below.refl _ _).alloc (Nat.le_refl _) _
  have ho0 := O8At.new w 3 d vL t vP a cm o nm ty g m
  have HI := Lib.hid (hI.below hl0)
  have HN := Lib.hid hn
  clear hI hn
  have HL0 := Lib.hid hl0
  have hta := fun W => ta_bb W (.slice A n c)
  go_enter Tryz.func21, Tryz.ntmps21
  go_upto_region 2 with (fail)
  generalize w.alloc (.cells #[.int .i64 3, .string d, vL, .string t, vP, .string a, .string cm, .string o, .string nm, .int .i64 ty, .string g, .string m] 50) = w0 at *
  generalize hog : w.heap.size = og at *
  have HOG := Lib.hid hog
  clear hog hl0
  have HO := Lib.hid ho0
  clear ho0
  go_upto_region 4 with (fail)
  have hl1 : Below w0.heap.size w0 (w0.alloc (.cells #[.slice A n c] 71)) := (Below.refl _ _).alloc (Nat.le_refl _) _
  have x0 : (w0.alloc (.cells #[.slice A n c] 71)).cell? ⟨w0.heap.size, 0, none⟩ = some (.slice A n c) := by rw [World.cell?_alloc_at _ _ _ _ (by simp)]; rfl
  have HLL := Lib.hid (HL0.out.trans (hl1.mono (by rw [← HOG.out]; exact HL0.out.size)))
  have ho1 := HO.out.below hl1
  have cv := run_str_ints (P := Tryz.prog) (w := w0.alloc (.cells #[.slice A n c] 71)) 24 9 5 Tryz.underlying24 Tryz.underlying5 Tryz.underlying9 A c (bytesOf d) (HI.out.below hl1)
  rw [HN.out, strOfNums_bytes] at cv
  generalize w0.alloc (.cells #[.slice A n c] 71) = w1 at *
  generalize w0.heap.size = xg at *
  have k0 := ho1.c0
  have k1 := ho1.c1
  have k3 := ho1.c3
  have k4 := ho1.c4
  have k5 := ho1.c5
  have k6 := ho1.c6
  have k7 := ho1.c7
  have k8 := ho1.c8
  have k9 := ho1.c9
  have k10 := ho1.c10
  have k11 := ho1.c11
  have HOO := Lib.hid ho1
  clear hl1 ho1
  go_wp2
  go_ret
  exact ⟨rfl, by rw [HOG.out]; exact HLL.out⟩

set_option maxRecDepth 100000 in
set_option maxHeartbeats 4000000 in
theorem sameCommit_any (B A : Option Addr) (n c e : Nat) (P : List ByteArray) (d : ByteArray) (vL : Value) (t : ByteArray) (a : ByteArray) (cm : ByteArray) (o : ByteArray) (nm : ByteArray) (ty : Int) (g : ByteArray) (m : ByteArray) (w : World) (hB : StrsAt w B P) (hA : StrsAt w A P) (hn : P.length = n) (hs : n ≤ 1099511627776) (hz : ∀ p ∈ P, p.size ≤ 140737488351300) :
    Calls Tryz.prog 21 #[.iface 44 (.agg #[.string t, .slice B n e, .string a, .string cm, .string m]), .agg #[.int .i64 1, .string d, vL, .string t, .slice A n c, .string a, .string cm, .string o, .string nm, .int .i64 ty, .string g, .string m]] w fun e w' => e = .returned (.bool true) ∧ Below w.heap.size w w' := by
  have hl0 : Below w.heap.size w (w.alloc (.cells #[.int .i64 1, .string d, vL, .string t, .slice A n c, .string a, .string cm, .string o, .string nm, .int .i64 ty, .string g, .string m] 50)) := (Below.refl _ _).alloc (Nat.le_refl _) _
  have ho0 := O8At.new w 1 d vL t (.slice A n c) a cm o nm ty g m
  have HB := Lib.hid (hB.below hl0)
  have HA := Lib.hid (hA.below hl0)
  have HN := Lib.hid hn
  have HZ := Lib.hid hz
  clear hB hA hn hz
  have HL0 := Lib.hid hl0
  have hta1 := fun W x => ta_cb W x
  have hta2 := fun W x => ta_ct W x
  have hta3 := fun W x => ta_cc W x
  go_enter Tryz.func21, Tryz.ntmps21
  go_upto_region 2 with (fail)
  generalize w.alloc (.cells #[.int .i64 1, .string d, vL, .string t, .slice A n c, .string a, .string cm, .string o, .string nm, .int .i64 ty, .string g, .string m] 50) = w0 at *
  generalize hog : w.heap.size = og at *
  have HOG := Lib.hid hog
  clear hog hl0
  have HO := Lib.hid ho0
  clear ho0
  go_upto_region 10 with (fail)
  have hl1 : Below w0.heap.size w0 (w0.alloc (.cells #[.string t, .slice B n e, .string a, .string cm, .string m] 44)) := (Below.refl _ _).alloc (Nat.le_refl _) _
  have x0 : (w0.alloc (.cells #[.string t, .slice B n e, .string a, .string cm, .string m] 44)).cell? ⟨w0.heap.size, 0, none⟩ = some (.string t) := by rw [World.cell?_alloc_at _ _ _ _ (by simp)]; rfl
  have x1 : (w0.alloc (.cells #[.string t, .slice B n e, .string a, .string cm, .string m] 44)).cell? ⟨w0.heap.size, 1, none⟩ = some (.slice B n e) := by rw [World.cell?_alloc_at _ _ _ _ (by simp)]; rfl
  have x2 : (w0.alloc (.cells #[.string t, .slice B n e, .string a, .string cm, .string m] 44)).cell? ⟨w0.heap.size, 2, none⟩ = some (.string a) := by rw [World.cell?_alloc_at _ _ _ _ (by simp)]; rfl
  have x3 : (w0.alloc (.cells #[.string t, .slice B n e, .string a, .string cm, .string m] 44)).cell? ⟨w0.heap.size, 3, none⟩ = some (.string cm) := by rw [World.cell?_alloc_at _ _ _ _ (by simp)]; rfl
  have x4 : (w0.alloc (.cells #[.string t, .slice B n e, .string a, .string cm, .string m] 44)).cell? ⟨w0.heap.size, 4, none⟩ = some (.string m) := by rw [World.cell?_alloc_at _ _ _ _ (by simp)]; rfl
  have HLL := Lib.hid (HL0.out.trans (hl1.mono (by rw [← HOG.out]; exact HL0.out.size)))
  have ho1 := HO.out.below hl1
  have HB1 := Lib.hid (HB.out.below hl1)
  have HA1 := Lib.hid (HA.out.below hl1)
  generalize w0.alloc (.cells #[.string t, .slice B n e, .string a, .string cm, .string m] 44) = w1 at *
  generalize w0.heap.size = xg at *
  have k0 := ho1.c0
  have k1 := ho1.c1
  have k3 := ho1.c3
  have k4 := ho1.c4
  have k5 := ho1.c5
  have k6 := ho1.c6
  have k7 := ho1.c7
  have k8 := ho1.c8
  have k9 := ho1.c9
  have k10 := ho1.c10
  have k11 := ho1.c11
  have HOO := Lib.hid ho1
  clear hl1 ho1
  have HT := Lib.hid (texts_any B A n e c P w1 HB1.out HA1.out HN.out hs HZ.out)
  have HX : Hid (xg < w1.heap.size) := Lib.hid (World.block_lt_of_cell? w1 _ x0)
  have HX2 := Lib.hid x2
  have HX3 := Lib.hid x3
  have HX4 := Lib.hid x4
  go_wp2_with (go_at_call 47; go_loud (refine HT.out.mono ?_; rintro e w5 ⟨rfl, hb5⟩; have HB5 := Lib.hid hb5; have q := HOO.out.below hb5; have q5 := q.c5; have q6 := q.c6; have q11 := q.c11; have y2 := (hb5.cell (p := ⟨xg, 2, none⟩) HX.out).trans HX2.out; have y3 := (hb5.cell (p := ⟨xg, 3, none⟩) HX.out).trans HX3.out; have y4 := (hb5.cell (p := ⟨xg, 4, none⟩) HX.out).trans HX4.out; clear q hb5))
  go_ret
  exact ⟨rfl, by rw [HOG.out]; exact HLL.out.trans (HB5.out.mono (by rw [← HOG.out]; exact HLL.out.size))⟩

set_option maxRecDepth 100000 in
set_option maxHeartbeats 4000000 in
theorem sameTag_any  (d : ByteArray) (vL : Value) (t : ByteArray) (vP : Value) (a : ByteArray) (cm : ByteArray) (o : ByteArray) (nm : ByteArray) (ty : Int) (g : ByteArray) (m : ByteArray) (w : World) :
    Calls Tryz.prog 21 #[.iface 91 (.agg #[.string o, .int .i64 ty, .string nm, .string g, .string m]), .agg #[.int .i64 4, .string d, vL, .string t, vP, .string a, .string cm, .string o, .string nm, .int .i64 ty, .string g, .string m]] w fun e w' => e = .returned (.bool true) ∧ Below w.heap.size w w' := by
  have hl0 : Below w.heap.size w (w.alloc (.cells #[.int .i64 4, .string d, vL, .string t, vP, .string a, .string cm, .string o, .string nm, .int .i64 ty, .string g, .string m] 50)) := (Below.refl _ _).alloc (Nat.le_refl _) _
  have ho0 := O8At.new w 4 d vL t vP a cm o nm ty g m
  have HL0 := Lib.hid hl0
  have hta1 := fun W x => ta_gb W x
  have hta2 := fun W x => ta_gt W x
  have hta3 := fun W x => ta_gc W x
  have hta4 := fun W x => ta_gg W x
  go_enter Tryz.func21, Tryz.ntmps21
  go_upto_region 2 with (fail)
  generalize w.alloc (.cells #[.int .i64 4, .string d, vL, .string t, vP, .string a, .string cm, .string o, .string nm, .int .i64 ty, .string g, .string m] 50) = w0 at *
  generalize hog : w.heap.size = og at *
  have HOG := Lib.hid hog
  clear hog hl0
  have HO := Lib.hid ho0
  clear ho0
  go_upto_region 13 with (fail)
  have hl1 : Below w0.heap.size w0 (w0.alloc (.cells #[.string o, .int .i64 ty, .string nm, .string g, .string m] 91)) := (Below.refl _ _).alloc (Nat.le_refl _) _
  have x0 : (w0.alloc (.cells #[.string o, .int .i64 ty, .string nm, .string g, .string m] 91)).cell? ⟨w0.heap.size, 0, none⟩ = some (.string o) := by rw [World.cell?_alloc_at _ _ _ _ (by simp)]; rfl
  have x1 : (w0.alloc (.cells #[.string o, .int .i64 ty, .string nm, .string g, .string m] 91)).cell? ⟨w0.heap.size, 1, none⟩ = some (.int .i64 ty) := by rw [World.cell?_alloc_at _ _ _ _ (by simp)]; rfl
  have x2 : (w0.alloc (.cells #[.string o, .int .i64 ty, .string nm, .string g, .string m] 91)).cell? ⟨w0.heap.size, 2, none⟩ = some (.string nm) := by rw [World.cell?_alloc_at _ _ _ _ (by simp)]; rfl
  have x3 : (w0.alloc (.cells #[.string o, .int .i64 ty, .string nm, .string g, .string m] 91)).cell? ⟨w0.heap.size, 3, none⟩ = some (.string g) := by rw [World.cell?_alloc_at _ _ _ _ (by simp)]; rfl
  have x4 : (w0.alloc (.cells #[.string o, .int .i64 ty, .string nm, .string g, .string m] 91)).cell? ⟨w0.heap.size, 4, none⟩ = some (.string m) := by rw [World.cell?_alloc_at _ _ _ _ (by simp)]; rfl
  have HLL := Lib.hid (HL0.out.trans (hl1.mono (by rw [← HOG.out]; exact HL0.out.size)))
  have ho1 := HO.out.below hl1
  generalize w0.alloc (.cells #[.string o, .int .i64 ty, .string nm, .string g, .string m] 91) = w1 at *
  generalize w0.heap.size = xg at *
  have k0 := ho1.c0
  have k1 := ho1.c1
  have k3 := ho1.c3
  have k4 := ho1.c4
  have k5 := ho1.c5
  have k6 := ho1.c6
  have k7 := ho1.c7
  have k8 := ho1.c8
  have k9 := ho1.c9
  have k10 := ho1.c10
  have k11 := ho1.c11
  have HOO := Lib.hid ho1
  clear hl1 ho1
  go_wp2
  go_ret
  exact ⟨rfl, by rw [HOG.out]; exact HLL.out⟩

end Go.Proofs.YtdlabapfcghfmaaGreatDoor
namespace Go.Proofs.YtdlabapfcghfmaaGreatDoor
open Go.RowKit
set_option linter.unusedVariables false
set_option linter.unusedSimpArgs false

def NoLine (L : List ByteArray) : Prop := ∀ s ∈ L, (10 : UInt8) ∉ s.data.toList
def LinesPost (L : List ByteArray) (w : World) (e : Ending) (w' : World) : Prop := Below w.heap.size w w' ∧ ((e = .returned (.bool false) ∧ ¬ NoLine L) ∨ (e = .returned (.bool true) ∧ NoLine L))
theorem strs_one (L : List ByteArray) : ∀ u ∈ L.map Value.string, u.oneCell' = true := fun u hu => by
  obtain ⟨s, _, rfl⟩ := List.mem_map.1 hu
  rfl
theorem Src.strs {P : Program} {w : World} {A : Option Addr} {c n : Nat} {L : List ByteArray} (h : StrsAt w A L) (hn : L.length = n) : Src P w 1 (.slice A n c) n (L.map Value.string) := by
  subst hn
  refine Src.vals (by simp) (strs_one L) (fun hl => ?_)
  obtain ⟨b, o, hA, _, hc⟩ := h (by simpa using hl)
  refine ⟨⟨b, o, none⟩, hA, fun j u hj => ?_⟩
  rw [List.getElem?_map] at hj
  obtain ⟨y, hy, rfl⟩ := Option.map_eq_some_iff.1 hj
  rw [Addr.add_lit, hc j y hy]
theorem OwnS.new6 (w : World) (a b c d e f : Value) (t : TypeId) : OwnS (w.alloc (.cells #[a, b, c, d, e, f] t)) w.heap.size t 1 (.slice (some ⟨w.heap.size, 0, none⟩) 6 6) 6 [a, b, c, d, e, f] :=
  ⟨rfl, .inr ⟨w.heap.size, 0, 6, #[a, b, c, d, e, f], rfl, Nat.le_refl _, ⟨_, heap_alloc_new w _, .inl (Nat.le_refl _)⟩, Nat.le_refl _, by unfold maxLen; omega, by simp, by simp⟩⟩
theorem noLine_at {s : ByteArray} (h : ∀ j, j < s.size → s.data.toList[j]? ≠ some 10) : (10 : UInt8) ∉ s.data.toList := fun hm => by
  obtain ⟨j, hj, e⟩ := List.mem_iff_getElem.1 hm
  exact h j (by rw [Lib.size_eq]; exact hj) (by rw [List.getElem?_eq_getElem hj, e])
set_option maxRecDepth 100000 in
set_option maxHeartbeats 4000000 in
theorem lines_any (kd : Int) (d : ByteArray) (vL : Value) (t : ByteArray) (A : Option Addr) (n c : Nat) (P : List ByteArray) (a cm o nm : ByteArray) (ty : Int) (g m : ByteArray) (w : World) (hA : StrsAt w A P) (hn : P.length = n) (hs : n ≤ 1099511627776)
    (L : List ByteArray) (hL : L = [t, a, cm, o, nm, g] ++ P) (hz : ∀ s ∈ L, s.size ≤ 140737488351300) :
    Calls Tryz.prog 20 #[.agg #[.int .i64 kd, .string d, vL, .string t, .slice A n c, .string a, .string cm, .string o, .string nm, .int .i64 ty, .string g, .string m]] w (LinesPost L w) := by
  have HLL := Lib.hid hL
  clear hL
  obtain ⟨i0, hi, hz0, hz1, hz2⟩ := info_parts info_str
  have hl0 : Below w.heap.size w (w.alloc (.cells #[.int .i64 kd, .string d, vL, .string t, .slice A n c, .string a, .string cm, .string o, .string nm, .int .i64 ty, .string g, .string m] 50)) := (Below.refl _ _).alloc (Nat.le_refl _) _
  have ho0 := O8At.new w kd d vL t (.slice A n c) a cm o nm ty g m
  have HA := Lib.hid (hA.below hl0)
  have HN := Lib.hid hn
  have HZ := Lib.hid hz
  clear hA hn hz
  go_enter Tryz.func20, Tryz.ntmps20
  go_upto_region 1 with (fail)
  generalize w.alloc (.cells #[.int .i64 kd, .string d, vL, .string t, .slice A n c, .string a, .string cm, .string o, .string nm, .int .i64 ty, .string g, .string m] 50) = w0 at *
  have HL0 := Lib.hid hl0
  generalize hog : w.heap.size = og at *
  have HOG := Lib.hid hog
  have k3 := ho0.c3
  have k4 := ho0.c4
  have k5 := ho0.c5
  have k6 := ho0.c6
  have k7 := ho0.c7
  have k8 := ho0.c8
  have k10 := ho0.c10
  clear hog hl0
  have hl1 : Below w0.heap.size w0 (w0.alloc (.cells #[.string t, .string a, .string cm, .string o, .string nm, .string g] 9)) := (Below.refl _ _).alloc (Nat.le_refl _) _
  have HO1 := Lib.hid (OwnS.new6 w0 (.string t) (.string a) (.string cm) (.string o) (.string nm) (.string g) 9)
  have HSRC := Lib.hid (Src.strs (P := Tryz.prog) (c := c) (HA.out.below hl1) HN.out)
  have HL1 := Lib.hid hl1
  have k4' := (ho0.below hl1).c4
  clear hl1 ho0
  go_upto_region 2 with (at_builtin; go_loud (refine wpList_append_S rfl (.tmp 18) (.tmp 20) 25 25 rfl i0 (.string ⟨#[]⟩) 16 (.slice 9) Tryz.underlying25 Tryz.underlying25 (fun _ h => by cases h) hi hz0 hz1 hz2 rfl rfl rfl HO1.out HSRC.out (show 6 + n ≤ maxLen by unfold maxLen; omega) (show (6 + n) * 16 ≤ 140737488355328 by omega) HL1.out.size ?_; intro A9 c9 w9 ho9 hg9 hw9))
  have HB9 := Lib.hid (HL0.out.trans (HL1.out.grown hg9 HL1.out.size (fun j hj => (HO1.out.lt j hj).1) |>.mono (by rw [← HOG.out]; exact HL0.out.size)))
  have hlen : L.length = 6 + n := by rw [HLL.out, List.length_append, HN.out]; rfl
  have HO9 : Hid (OwnS w9 w0.heap.size 9 1 (.slice A9 (6 + n) c9) (6 + n) (L.map Value.string)) := Lib.hid (by rw [HLL.out, List.map_append]; exact ho9)
  generalize hNN : 6 + n = N at *
  have HLEN := Lib.hid hlen
  have hNb : N ≤ 1099511627790 := by omega
  clear ho9 hg9 hw9 hlen hNN HA HO1 HSRC HL1 HL0
  go_wp2
  go_loopw [4, 5] (fun vi _ wr => ∃ k : Nat, vi = .int .i64 k ∧ k ≤ N ∧ w9 = wr ∧ ∀ i s, i < k → L[i]? = some s → (10 : UInt8) ∉ s.data.toList) (fun vi _ _ => N - (intOf vi).toNat)
  case atStart => exact ⟨0, rfl, Nat.zero_le _, rfl, fun i s h => by omega⟩
  case round =>
    obtain ⟨k, rfl, hk, rfl, hno⟩ := hrel
    have HNO := Lib.hid hno
    clear hno
    by_cases hlt : k < N
    · obtain ⟨gx, ox, c', hv, _, _, hcell⟩ := HO9.out.cells (by rw [List.length_map, HLEN.out]; omega)
      injection hv with hA9 _ hc'
      obtain ⟨s, hs'⟩ : ∃ s, L[k]? = some s := ⟨_, List.getElem?_eq_getElem (by rw [HLEN.out]; exact hlt)⟩
      have r0 : w9.cell? ⟨gx, ox + k, none⟩ = some (.string s) := by rw [hcell k (by rw [List.length_map, HLEN.out]; exact hlt), List.getElem?_map, hs']; rfl
      subst hA9; subst hc'
      have hsz := HZ.out s (List.mem_of_getElem? hs')
      have HSK := Lib.hid hs'
      have d2 : decide ((k : Int) < (N : Int)) = true := decide_eq_true (by omega)
      have d2' : decide (k < N) = true := decide_eq_true hlt
      clear hcell hs'
      go_wp2
      go_loopw [5] (fun vj wz => ∃ j : Nat, vj = .int .i64 j ∧ j ≤ s.size ∧ w9 = wz ∧ ∀ i, i < j → s.data.toList[i]? ≠ some 10) (fun vj _ => s.size - (intOf vj).toNat)
      case atStart => exact ⟨0, rfl, Nat.zero_le _, rfl, fun i h => by omega⟩
      case round =>
        obtain ⟨j, rfl, hj, hwz, hnj⟩ := hrel
        subst hwz
        have HNJ := Lib.hid hnj
        clear hnj
        by_cases hjl : j < s.size
        · have e0 : decide ((j : Int) < (s.size : Int)) = true := decide_eq_true (by omega)
          have hx := Lib.data_getElem? s j hjl
          by_cases hc : s[j]'hjl = 10
          · have q : ((((s[j]'hjl).toNat : Nat) : Int) == 10) = true := by rw [hc]; rfl
            have HX : Hid (¬ NoLine L) := Lib.hid (fun h => h s (List.mem_of_getElem? HSK.out) (List.mem_of_getElem? (by rw [hx, hc])))
            clear hx hc
            go_wp2
            go_ret
            exact ⟨by rw [HOG.out]; exact HB9.out, .inl ⟨rfl, HX.out⟩⟩
          · have q : ((((s[j]'hjl).toNat : Nat) : Int) == 10) = false := by
              rw [beq_eq_false_iff_ne]
              intro h
              exact hc (UInt8.toNat_inj.1 (by show _ = 10; omega))
            have HS : Hid (∀ i, i < j + 1 → s.data.toList[i]? ≠ some 10) := Lib.hid (fun i hi => by
              by_cases e : i = j
              · rw [e, hx]; intro h; exact hc (Option.some.inj h)
              · exact HNJ.out i (by omega))
            clear hx hc
            go_wp2
            go_roundw
            case rel => exact ⟨j + 1, rfl, by omega, (by first | rfl | trivial), HS.out⟩
            case measure => simp [intOf]; omega
        · obtain rfl : j = s.size := by omega
          have e0 : decide ((s.size : Int) < (s.size : Int)) = false := decide_eq_false (by omega)
          have HS : Hid (∀ i s, i < k + 1 → L[i]? = some s → (10 : UInt8) ∉ s.data.toList) := Lib.hid (fun i s' hi' hs' => by
            by_cases e : i = k
            · rw [e, HSK.out] at hs'
              injection hs' with hs'
              rw [← hs']
              exact noLine_at HNJ.out
            · exact HNO.out i s' (by omega) hs')
          go_wp2
          go_roundw
          case rel => exact ⟨k + 1, rfl, by omega, (by first | rfl | trivial), HS.out⟩
          case measure => simp [intOf]; omega
    · obtain rfl : N = k := by omega
      have d2 : decide ((N : Int) < (N : Int)) = false := decide_eq_false (by omega)
      have d2' : decide (N < N) = false := decide_eq_false (by omega)
      go_wp2
      go_ret
      refine ⟨by rw [HOG.out]; exact HB9.out, .inr ⟨rfl, fun s hs => ?_⟩⟩
      obtain ⟨i, hi', e⟩ := List.mem_iff_getElem.1 hs
      exact HNO.out i s (by rw [HLEN.out] at hi'; exact hi') (by rw [List.getElem?_eq_getElem hi', e])
end Go.Proofs.YtdlabapfcghfmaaGreatDoor
namespace Go.Proofs.YtdlabapfcghfmaaGreatDoor
open Go.RowKit
set_option linter.unusedVariables false
set_option linter.unusedSimpArgs false

def SlB (w : World) (v : Value) (L : List Int) (n : Nat) : Prop := ∃ A c, v = .slice A n c ∧ Ints .u8 w A L
theorem SlB.below {w w' : World} {v : Value} {L : List Int} {n : Nat} (h : SlB w v L n) (hb : Below w.heap.size w w') : SlB w' v L n := by
  obtain ⟨A, c, h1, h2⟩ := h
  exact ⟨A, c, h1, h2.below hb⟩
def IPr (w0 : World) (L : List Int) (n : Nat) : List Value → World → Prop
  | [], w => Below w0.heap.size w0 w
  | v :: _, w => Below w0.heap.size w0 w ∧ SlB w v L n
theorem IPr.bel {w0 : World} {L : List Int} {n : Nat} {us : List Value} {w : World} (h : IPr w0 L n us w) : Below w0.heap.size w0 w := by
  match us, h with
  | [], h => exact h
  | _ :: _, h => exact h.1
theorem IPr.mono {w0 : World} {L : List Int} {n : Nat} {us : List Value} {w w' : World} (h : IPr w0 L n us w) (hb : Below w.heap.size w w') : IPr w0 L n us w' := by
  have hB := h.bel.trans (hb.mono h.bel.size)
  match us, h with
  | [], h => exact hB
  | _ :: _, h => exact ⟨hB, h.2.below hb⟩
structure MethW (name : String) (t : TypeId) (v : Value) (f : FuncId) (r : Value) : Prop where
  look : ∀ W : World, (method (Tryz.prog.types.size + Made.depth) t v name).run Tryz.prog W = .ok (f, r) W
  ent : ∀ W : World, (callFunc f #[r]).run Tryz.prog W = .ok (.enter f #[r]) W
def ParseT (RL : List Int) (OV : Value) (NL : Prop) (kd : Int) (W : World) (e : Ending) (w' : World) : Prop :=
  Below W.heap.size W w' ∧ ∃ t v f r, e = .returned (.tuple #[.iface t v, .int .i64 0]) ∧ MethW "Bytes" t v f r ∧
    (∀ w1, Below w'.heap.size w' w1 → Calls Tryz.prog f #[r] w1 (BytesPost w1 RL))
theorem mdepth : Tryz.prog.types.size + Made.depth = 296 := by kernel_rfl
def MakeP (RL : List Int) (W : World) (e : Ending) (w' : World) : Prop :=
  Below W.heap.size W w' ∧ ∃ t v f r, e = .returned (.iface t v) ∧ MethW "Bytes" t v f r ∧ Calls Tryz.prog f #[r] w' (BytesPost w' RL)
def ParseP (RL : List Int) (OV : Value) (NL : Prop) (kd : Int) (okb : Bool) (W : World) (e : Ending) (w' : World) : Prop :=
  Below W.heap.size W w' ∧ ((okb = false ∧ e = .returned (.tuple #[.nilIface, .int .i64 3])) ∨ (okb = true ∧ ∃ t v f r, e = .returned (.tuple #[.iface t v, .int .i64 0]) ∧ MethW "Bytes" t v f r ∧
    (∀ w1, Below w'.heap.size w' w1 → Calls Tryz.prog f #[r] w1 (BytesPost w1 RL)) ∧ (NL → ¬ kd = 2 → ∀ w1, Below w'.heap.size w' w1 → Calls Tryz.prog 21 #[.iface t v, OV] w1 fun e w'' => e = .returned (.bool true) ∧ Below w1.heap.size w1 w'')))
def LinesP (NL : Prop) (W : World) (e : Ending) (w' : World) : Prop := Below W.heap.size W w' ∧ ((e = .returned (.bool false) ∧ ¬ NL) ∨ (e = .returned (.bool true) ∧ NL))
set_option maxRecDepth 100000 in
set_option maxHeartbeats 8000000 in
theorem back_walk (kd : Int) (d : ByteArray) (vL : Value) (t : ByteArray) (vP : Value) (a cm o nm : ByteArray) (ty : Int) (g m : ByteArray) (w : World) (hE : EnvO w) (n : Nat) (RL : List Int) (hn : RL.length = n) (hs : n ≤ 140737488351300) (okb : Bool) (NL : Prop) (hk1 : 1 ≤ kd) (hk4 : kd ≤ 4)
    (hMK : ∀ W, Below w.heap.size w W → Calls Tryz.prog 19 #[.agg #[.int .i64 kd, .string d, vL, .string t, vP, .string a, .string cm, .string o, .string nm, .int .i64 ty, .string g, .string m]] W (MakeP RL W))
    (hPR : ∀ W A, EnvO W → Ints .u8 W A RL → Below w.heap.size w W → Calls Tryz.prog 10 #[.int .i64 kd, .slice A n n] W (ParseP RL (.agg #[.int .i64 kd, .string d, vL, .string t, vP, .string a, .string cm, .string o, .string nm, .int .i64 ty, .string g, .string m]) NL kd okb W))
    (hLN : ¬ kd = 2 → ∀ W, Below w.heap.size w W → Calls Tryz.prog 20 #[.agg #[.int .i64 kd, .string d, vL, .string t, vP, .string a, .string cm, .string o, .string nm, .int .i64 ty, .string g, .string m]] W (LinesP NL W)) :
    Calls Tryz.prog 5 #[.agg #[.int .i64 kd, .string d, vL, .string t, vP, .string a, .string cm, .string o, .string nm, .int .i64 ty, .string g, .string m]] w fun e w' => e = .returned (.bool true) ∧ Below w.heap.size w w' := by
  have hl0 : Below w.heap.size w (w.alloc (.cells #[.int .i64 kd, .string d, vL, .string t, vP, .string a, .string cm, .string o, .string nm, .int .i64 ty, .string g, .string m] 50)) := (Below.refl _ _).alloc (Nat.le_refl _) _
  have ho0 := O8At.new w kd d vL t vP a cm o nm ty g m
  have HE := Lib.hid hE
  have HMK := Lib.hid hMK
  have HPR := Lib.hid hPR
  have HLN := Lib.hid hLN
  have HN := Lib.hid hn
  have d1 : decide (kd < 1) = false := decide_eq_false (by omega)
  have d4 : decide (kd > 4) = false := decide_eq_false (by omega)
  have d4' : decide ((4 : Int) < kd) = false := decide_eq_false (by omega)
  clear hE hMK hPR hLN hn
  go_enter Tryz.func5, Tryz.ntmps5
  go_upto_region 1 with (fail)
  generalize w.alloc (.cells #[.int .i64 kd, .string d, vL, .string t, vP, .string a, .string cm, .string o, .string nm, .int .i64 ty, .string g, .string m] 50) = w0 at *
  have k0 := ho0.c0
  have k1 := ho0.c1
  have k2 := ho0.c2
  have k3 := ho0.c3
  have k4 := ho0.c4
  have k5 := ho0.c5
  have k6 := ho0.c6
  have k7 := ho0.c7
  have k8 := ho0.c8
  have k9 := ho0.c9
  have k10 := ho0.c10
  have k11 := ho0.c11
  have HO0 := Lib.hid ho0
  have HL0 := Lib.hid hl0
  clear ho0 hl0
  generalize hog : w.heap.size = og at *
  have HOG := Lib.hid hog
  clear hog
  go_wp2_with fail
  refine (HMK.out w0 HL0.out).mono ?_
  rintro e w1 ⟨hb1, t1, v1, f1, r1, rfl, hm1, hc1⟩
  have lk1 := hm1.look
  rw [mdepth] at lk1
  have en1 := hm1.ent
  have HB1 := Lib.hid (HL0.out.trans (hb1.mono (by rw [← HOG.out]; exact HL0.out.size)))
  have HC1 := Lib.hid hc1
  have HO1 := Lib.hid (HO0.out.below hb1)
  clear hb1 hm1 hc1 k0 k1 k2 k3 k4 k5 k6 k7 k8 k9 k10 k11
  go_wp2_with fail
  refine HC1.out.mono ?_
  rintro e w2 ⟨A2, rfl, ho2, hb2⟩
  have HO2 := Lib.hid ho2
  have HB2 := Lib.hid (HB1.out.trans (hb2.mono (by rw [← HOG.out]; exact HB1.out.size)))
  have HOO2 := Lib.hid (HO1.out.below hb2)
  have k0 := HOO2.out.c0
  have HE2 := Lib.hid (HE.out.below (by rw [HOG.out]; exact HB2.out))
  rw [HN.out] at HO2
  rw [HN.out]
  clear hb2 ho2 lk1 en1
  go_wp2_with fail
  refine (HPR.out w2 A2 HE2.out HO2.out.ints HB2.out).mono ?_
  rintro e w3 ⟨hb3, ⟨hok, rfl⟩ | ⟨hok, t3, v3, f3, r3, rfl, hm3, hc3, hs3⟩⟩
  · have HB3 := Lib.hid (HB2.out.trans (hb3.mono (by rw [← HOG.out]; exact HB2.out.size)))
    have HE3 := Lib.hid (HE.out.below (by rw [HOG.out]; exact HB3.out))
    clear hb3 k0
    go_wp2_with (go_at_call 13; refine (awake8_any w3 HE3.out).mono ?_; rintro e w9 ⟨rfl, hb9⟩)
    go_ret
    exact ⟨rfl, by rw [HOG.out]; exact HB3.out.trans (hb9.mono (by rw [← HOG.out]; exact HB3.out.size))⟩
  · have HB3 := Lib.hid (HB2.out.trans (hb3.mono (by rw [← HOG.out]; exact HB2.out.size)))
    have HE3 := Lib.hid (HE.out.below (by rw [HOG.out]; exact HB3.out))
    have HOO3 := Lib.hid (HOO2.out.below hb3)
    have HO3 := Lib.hid (HO2.out.lowB hb3)
    have lk3 := hm3.look
    rw [mdepth] at lk3
    have en3 := hm3.ent
    have HC3 := Lib.hid hc3
    have HS3 := Lib.hid hs3
    have HOK := Lib.hid hok
    clear hb3 hm3 hc3 hs3 hok
    have HPT : Hid (∀ W A, EnvO W → Ints .u8 W A RL → Below og w W → Calls Tryz.prog 10 #[.int .i64 kd, .slice A n n] W (ParseT RL (.agg #[.int .i64 kd, .string d, vL, .string t, vP, .string a, .string cm, .string o, .string nm, .int .i64 ty, .string g, .string m]) NL kd W)) := Lib.hid (fun W A h1 h2 h3 => (HPR.out W A h1 h2 h3).mono (by
      rintro e w' ⟨hb, ⟨hok, _⟩ | ⟨_, t, v, f, r, h5, h6, h7, _⟩⟩
      · rw [HOK.out] at hok; cases hok
      · exact ⟨hb, t, v, f, r, h5, h6, h7⟩))
    have HBD := Lib.hid ((Below.refl w3.heap.size w3).drew)
    have k0 := HOO3.out.c0
    go_upto_region 9 with (fail)
    go_cut [6, 7] (fun v6 v7 wx => ∃ t v f r, v6 = .iface t v ∧ v7 = .int .i64 0 ∧ MethW "Bytes" t v f r ∧ Below w3.heap.size w3 wx ∧ ∀ w1, Below wx.heap.size wx w1 → Calls Tryz.prog f #[r] w1 (BytesPost w1 RL))
    case first => as_aux_lemma =>
      go_region_with (first
        | (go_at_call 10; go_loud (refine (HPT.out w4 A4 HE4.out HO4.out.ints HB4.out).mono ?_; rintro e w5 ⟨hb5, t5, v5, f5, r5, rfl, hm5, hc5⟩; have HM5 := Lib.hid hm5; have HC5 := Lib.hid hc5; have HB5 := Lib.hid (HB43.out.trans (hb5.mono HB43.out.size)); clear hb5 hm5 hc5))
        | (refine (HC3.out w3.drew HBD.out).mono ?_; rintro e w4 ⟨A4, rfl, ho4, hb4⟩; rw [HN.out]; rw [HN.out] at ho4; have HO4 := Lib.hid ho4; have HB43 := Lib.hid (HBD.out.trans hb4); have HB4 := Lib.hid (HB3.out.trans (HB43.out.mono (by rw [← HOG.out]; exact HB3.out.size))); have HE4 := Lib.hid (HE.out.below (by rw [HOG.out]; exact HB4.out)); have q0 := (HOO3.out.below HB43.out).c0; clear ho4 hb4))
      all_goals (go_wp2_with fail; go_meet; exact ⟨t5, v5, f5, r5, rfl, rfl, HM5.out, HB5.out, HC5.out⟩)
    case rest =>
      obtain ⟨t5, v5, f5, r5, rfl, rfl, hm5, hbw, hc5⟩ := hcut
      have HM5 := Lib.hid hm5
      have HC5 := Lib.hid hc5
      have HBW := Lib.hid hbw
      have HBC := Lib.hid (HB3.out.trans (hbw.mono (by rw [← HOG.out]; exact HB3.out.size)))
      have HOC := Lib.hid (HO3.out.lowB hbw)
      have HOOC := Lib.hid (HOO3.out.below hbw)
      have HCV : Hid (∀ (W : World) (A : Option Addr), Ints .u8 W A RL → (convert 24 9 (.slice A n n)).run Tryz.prog W = .ok (.string (strOfNums RL)) W) := Lib.hid (fun W A h => by
        have := run_str_ints (P := Tryz.prog) (w := W) 24 9 5 Tryz.underlying24 Tryz.underlying5 Tryz.underlying9 A n RL h
        rw [HN.out] at this
        exact this)
      clear hm5 hbw hc5 k0 lk3 en3 d1 d4 d4'
      go_upto_region 10 with (fail)
      generalize hRS : strOfNums RL = RS at *
      have HRS := Lib.hid hRS
      clear hRS
      by_cases hk2 : kd = 2
      · have E2 := Lib.hid (show (kd == 2) = true by rw [hk2]; rfl)
        clear hk1 hk4 hk2
        refine wp_region_ph (by kernel_rfl) [8] [.span 0 0, .span 0 0, .span 0 0, .span 0 0, .span 0 0, .span 0 0, .span 0 0, .span 0 0, .phase 0, .span 1 1, .span 0 1, .span 0 1, .span 1 1, .span 1 1, .span 1 1, .span 1 1, .span 1 1, .span 1 1, .span 1 1, .span 1 1, .span 1 1, .span 1 1, .span 1 1, .span 1 1, .span 1 1, .span 1 1, .span 1 1, .span 1 1, .span 1 1, .span 1 1, .span 1 1, .span 1 1, .span 1 1] [fun z9 => z9 = .int .i64 0, fun z9 => z9 = .bool true, fun z9 => z9 = .bool true, fun z9 => z9 = .iface t5 v5, fun z9 => z9 = .bool true, fun z9 => z9 = .bool true, fun z9 => z9 = .bool true, fun z9 => z9 = .iface t5 v5, fun _ => True, fun z9 => z9 = .string RS, fun z9 => z9 = .slice A2 n n, fun z9 => z9 = .string RS, fun z9 => z9 = .bool true, fun z9 => z9 = .bool true, fun z9 => z9 = .bool true, fun z9 => z9 = .pointer (some ⟨og, 0, none⟩), fun z9 => z9 = .int .i64 kd, fun z9 => z9 = .bool true, fun z9 => z9 = .bool true, fun z9 => z9 = undef, fun z9 => z9 = undef, fun z9 => z9 = undef, fun z9 => z9 = .bool true, fun z9 => z9 = .bool true, fun z9 => z9 = undef, fun z9 => z9 = undef, fun z9 => z9 = undef, fun z9 => z9 = .bool true, fun z9 => z9 = .bool true, fun z9 => z9 = .bool true, fun z9 => z9 = .bool true, fun z9 => z9 = .bool true, fun z9 => z9 = .bool true] ((IPr wc RL n)) (by kernel_rfl) (by kernel_rfl) (by kernel_rfl) (by kernel_rfl) (by kernel_rfl) (by kernel_rfl) rfl rfl ((show Below wc.heap.size wc wc.drew from (Below.refl _ _).drew)) ?steps ?done
        case steps =>
          refine ⟨?_, ?_, ?_, ?_, ?_, ?_, ?_, ?_, ?_, ?_, ?_, ?_, ?_, ?_, ?_, ?_, ?_, ?_, ?_, ?_, ?_, ?_, ?_, ?_, ?_, ?_, ?_, ?_, ?_, ?_, ?_, ?_, ?_, trivial⟩
          · intro us au w1 k0 hlo hhi ha hd hst hI
            obtain rfl : k0 = 0 := by omega
            have q7 := slot_far (t := 7) (v := .int .i64 0) ha (by kernel_rfl) (by kernel_rfl)
            have p7 := slot_norm q7
            clear ha hd hst
            exact StepI.pure (v := .int .i64 0) rfl rfl (by go_simp) ⟨rfl, hI⟩
          · intro us au w1 k1 hlo hhi ha hd hst hI
            obtain rfl : k1 = 0 := by omega
            have e0 := hd 0 _ (by kernel_rfl) rfl
            have q44 := slot_at (t := 44) 0 ha (by kernel_rfl) (by kernel_rfl) (by kernel_rfl) e0
            have p44 := slot_norm q44
            clear ha hd hst
            exact StepI.pure (v := .bool true) rfl rfl (by go_simp) ⟨rfl, hI⟩
          · intro us au w1 k2 hlo hhi ha hd hst hI
            obtain rfl : k2 = 0 := by omega
            have e1 := hd 1 _ (by kernel_rfl) rfl
            have q45 := slot_at (t := 45) 1 ha (by kernel_rfl) (by kernel_rfl) (by kernel_rfl) e1
            have p45 := slot_norm q45
            clear ha hd hst
            exact StepI.pure (v := .bool true) rfl rfl (by go_simp) ⟨rfl, hI⟩
          · intro us au w1 k3 hlo hhi ha hd hst hI
            obtain rfl : k3 = 0 := by omega
            have e2 := hd 2 _ (by kernel_rfl) rfl
            have q6 := slot_far (t := 6) (v := .iface t5 v5) ha (by kernel_rfl) (by kernel_rfl)
            have p6 := slot_norm q6
            have hg := slot_at (t := 46) 2 ha (by kernel_rfl) (by kernel_rfl) (by kernel_rfl) e2
            clear ha hd hst
            exact StepI.pure (v := .iface t5 v5) rfl (wanted_at rfl rfl hg) (by go_simp) ⟨rfl, hI⟩
          · intro us au w1 k4 hlo hhi ha hd hst hI
            obtain rfl : k4 = 0 := by omega
            have e3 := hd 3 _ (by kernel_rfl) rfl
            have e2 := hd 2 _ (by kernel_rfl) rfl
            have q47 := slot_at (t := 47) 3 ha (by kernel_rfl) (by kernel_rfl) (by kernel_rfl) e3
            have p47 := slot_norm q47
            have hg := slot_at (t := 46) 2 ha (by kernel_rfl) (by kernel_rfl) (by kernel_rfl) e2
            clear ha hd hst
            exact StepI.pure (v := .bool true) rfl (wanted_at rfl rfl hg) (by go_simp) ⟨rfl, hI⟩
          · intro us au w1 k5 hlo hhi ha hd hst hI
            obtain rfl : k5 = 0 := by omega
            have e2 := hd 2 _ (by kernel_rfl) rfl
            have e4 := hd 4 _ (by kernel_rfl) rfl
            have q46 := slot_at (t := 46) 2 ha (by kernel_rfl) (by kernel_rfl) (by kernel_rfl) e2
            have p46 := slot_norm q46
            have q48 := slot_at (t := 48) 4 ha (by kernel_rfl) (by kernel_rfl) (by kernel_rfl) e4
            have p48 := slot_norm q48
            clear ha hd hst
            exact StepI.pure (v := .bool true) rfl rfl (by go_simp) ⟨rfl, hI⟩
          · intro us au w1 k6 hlo hhi ha hd hst hI
            obtain rfl : k6 = 0 := by omega
            have e5 := hd 5 _ (by kernel_rfl) rfl
            have q49 := slot_at (t := 49) 5 ha (by kernel_rfl) (by kernel_rfl) (by kernel_rfl) e5
            have p49 := slot_norm q49
            clear ha hd hst
            exact StepI.pure (v := .bool true) rfl rfl (by go_simp) ⟨rfl, hI⟩
          · intro us au w1 k7 hlo hhi ha hd hst hI
            obtain rfl : k7 = 0 := by omega
            have e6 := hd 6 _ (by kernel_rfl) rfl
            have q6 := slot_far (t := 6) (v := .iface t5 v5) ha (by kernel_rfl) (by kernel_rfl)
            have p6 := slot_norm q6
            have hg := slot_at (t := 50) 6 ha (by kernel_rfl) (by kernel_rfl) (by kernel_rfl) e6
            clear ha hd hst
            exact StepI.pure (v := .iface t5 v5) rfl (wanted_at rfl rfl hg) (by go_simp) ⟨rfl, hI⟩
          · intro us au w1 ha hd hst hI
            have e7 := hd 7 _ (by kernel_rfl) rfl
            have e6 := hd 6 _ (by kernel_rfl) rfl
            have q51 := slot_at (t := 51) 7 ha (by kernel_rfl) (by kernel_rfl) (by kernel_rfl) e7
            have p51 := slot_norm q51
            have hg := slot_at (t := 50) 6 ha (by kernel_rfl) (by kernel_rfl) (by kernel_rfl) e6
            clear ha hd hst
            refine StepI.call (f := f5) (args := #[r5]) rfl (wanted_at rfl rfl hg) (run_invoke (x := .tmp 51) (name := "Bytes") (t := t5) (v := v5) rfl (by go_simp) (HM5.out.look _) (HM5.out.ent _)) ?_
            refine (HC5.out w1 (IPr.bel hI)).mono ?_
            rintro e w5 ⟨A5, rfl, ho5, hb5⟩
            exact ⟨_, rfl, trivial, (IPr.bel hI).trans (hb5.mono (IPr.bel hI).size), A5, _, by rw [HN.out], ho5.ints⟩
          · intro us au w1 k9 hlo hhi ha hd hst hI
            obtain rfl : k9 = 1 := by omega
            obtain ⟨e8⟩ := hd 8 _ (by kernel_rfl) rfl
            have e6 := hd 6 _ (by kernel_rfl) rfl
            have q52 := slot_at (t := 52) 8 ha (by kernel_rfl) (by kernel_rfl) (by kernel_rfl) (Eq.refl (us 8))
            have p52 := slot_norm q52
            have hg := slot_at (t := 50) 6 ha (by kernel_rfl) (by kernel_rfl) (by kernel_rfl) e6
            clear ha hd hst
            have hI0 := hI
            obtain ⟨hb, A, c, hv, hint⟩ := hI
            have hcv := run_str_ints (P := Tryz.prog) 24 9 5 Tryz.underlying24 Tryz.underlying5 Tryz.underlying9 A c RL hint
            rw [HRS.out, HN.out] at hcv
            rw [hv] at p52
            exact StepI.pure (v := .string RS) rfl (wanted_at rfl rfl hg) (by go_simp) ⟨rfl, hI0⟩
          · intro us au w1 k10 hlo hhi ha hd hst hI
            have e6 := hd 6 _ (by kernel_rfl) rfl
            have q3 := slot_far (t := 3) (v := .slice A2 n n) ha (by kernel_rfl) (by kernel_rfl)
            have p3 := slot_norm q3
            have hg := slot_at (t := 50) 6 ha (by kernel_rfl) (by kernel_rfl) (by kernel_rfl) e6
            clear ha hd hst
            exact StepI.pure (v := .slice A2 n n) rfl (wanted_at rfl rfl hg) (by go_simp) ⟨rfl, hI⟩
          · intro us au w1 k11 hlo hhi ha hd hst hI
            have e10 := hd 10 _ (by kernel_rfl) rfl
            have e6 := hd 6 _ (by kernel_rfl) rfl
            have q54 := slot_at (t := 54) 10 ha (by kernel_rfl) (by kernel_rfl) (by kernel_rfl) e10
            have p54 := slot_norm q54
            have hg := slot_at (t := 50) 6 ha (by kernel_rfl) (by kernel_rfl) (by kernel_rfl) e6
            clear ha hd hst
            have hcv := HCV.out w1 A2 ((HOC.out.lowB (IPr.bel hI)).ints)
            exact StepI.pure (v := .string RS) rfl (wanted_at rfl rfl hg) (by go_simp) ⟨rfl, hI⟩
          · intro us au w1 k12 hlo hhi ha hd hst hI
            obtain rfl : k12 = 1 := by omega
            have e9 := hd 9 _ (by kernel_rfl) rfl
            have e11 := hd 11 _ (by kernel_rfl) rfl
            have e6 := hd 6 _ (by kernel_rfl) rfl
            have q53 := slot_at (t := 53) 9 ha (by kernel_rfl) (by kernel_rfl) (by kernel_rfl) e9
            have p53 := slot_norm q53
            have q55 := slot_at (t := 55) 11 ha (by kernel_rfl) (by kernel_rfl) (by kernel_rfl) e11
            have p55 := slot_norm q55
            have hg := slot_at (t := 50) 6 ha (by kernel_rfl) (by kernel_rfl) (by kernel_rfl) e6
            clear ha hd hst
            exact StepI.pure (v := .bool true) rfl (wanted_at rfl rfl hg) (by go_simp) ⟨rfl, hI⟩
          · intro us au w1 k13 hlo hhi ha hd hst hI
            obtain rfl : k13 = 1 := by omega
            have e6 := hd 6 _ (by kernel_rfl) rfl
            have e12 := hd 12 _ (by kernel_rfl) rfl
            have q50 := slot_at (t := 50) 6 ha (by kernel_rfl) (by kernel_rfl) (by kernel_rfl) e6
            have p50 := slot_norm q50
            have q56 := slot_at (t := 56) 12 ha (by kernel_rfl) (by kernel_rfl) (by kernel_rfl) e12
            have p56 := slot_norm q56
            clear ha hd hst
            exact StepI.pure (v := .bool true) rfl rfl (by go_simp) ⟨rfl, hI⟩
          · intro us au w1 k14 hlo hhi ha hd hst hI
            obtain rfl : k14 = 1 := by omega
            have e13 := hd 13 _ (by kernel_rfl) rfl
            have q57 := slot_at (t := 57) 13 ha (by kernel_rfl) (by kernel_rfl) (by kernel_rfl) e13
            have p57 := slot_norm q57
            clear ha hd hst
            exact StepI.pure (v := .bool true) rfl rfl (by go_simp) ⟨rfl, hI⟩
          · intro us au w1 k15 hlo hhi ha hd hst hI
            obtain rfl : k15 = 1 := by omega
            have e14 := hd 14 _ (by kernel_rfl) rfl
            have q1 := slot_far (t := 1) (v := .pointer (some ⟨og, 0, none⟩)) ha (by kernel_rfl) (by kernel_rfl)
            have p1 := slot_norm q1
            have hg := slot_at (t := 58) 14 ha (by kernel_rfl) (by kernel_rfl) (by kernel_rfl) e14
            clear ha hd hst
            exact StepI.pure (v := .pointer (some ⟨og, 0, none⟩)) rfl (wanted_at rfl rfl hg) (by go_simp) ⟨rfl, hI⟩
          · intro us au w1 k16 hlo hhi ha hd hst hI
            obtain rfl : k16 = 1 := by omega
            have e15 := hd 15 _ (by kernel_rfl) rfl
            have e14 := hd 14 _ (by kernel_rfl) rfl
            have q59 := slot_at (t := 59) 15 ha (by kernel_rfl) (by kernel_rfl) (by kernel_rfl) e15
            have p59 := slot_norm q59
            have hg := slot_at (t := 58) 14 ha (by kernel_rfl) (by kernel_rfl) (by kernel_rfl) e14
            clear ha hd hst
            have kk := (HOOC.out.below (IPr.bel hI)).c0
            exact StepI.pure (v := .int .i64 kd) rfl (wanted_at rfl rfl hg) (by go_simp) ⟨rfl, hI⟩
          · intro us au w1 k17 hlo hhi ha hd hst hI
            obtain rfl : k17 = 1 := by omega
            have e16 := hd 16 _ (by kernel_rfl) rfl
            have e14 := hd 14 _ (by kernel_rfl) rfl
            have q60 := slot_at (t := 60) 16 ha (by kernel_rfl) (by kernel_rfl) (by kernel_rfl) e16
            have p60 := slot_norm q60
            have hg := slot_at (t := 58) 14 ha (by kernel_rfl) (by kernel_rfl) (by kernel_rfl) e14
            clear ha hd hst
            have ee := E2.out
            exact StepI.pure (v := .bool true) rfl (wanted_at rfl rfl hg) (by go_simp) ⟨rfl, hI⟩
          · intro us au w1 k18 hlo hhi ha hd hst hI
            obtain rfl : k18 = 1 := by omega
            have e17 := hd 17 _ (by kernel_rfl) rfl
            have e14 := hd 14 _ (by kernel_rfl) rfl
            have q61 := slot_at (t := 61) 17 ha (by kernel_rfl) (by kernel_rfl) (by kernel_rfl) e17
            have p61 := slot_norm q61
            have hg := slot_at (t := 58) 14 ha (by kernel_rfl) (by kernel_rfl) (by kernel_rfl) e14
            clear ha hd hst
            exact StepI.pure (v := .bool true) rfl (wanted_at rfl rfl hg) (by go_simp) ⟨rfl, hI⟩
          · intro us au w1 k19 hlo hhi ha hd hst hI
            obtain rfl : k19 = 1 := by omega
            have e18 := hd 18 _ (by kernel_rfl) rfl
            have hg := slot_at (t := 62) 18 ha (by kernel_rfl) (by kernel_rfl) (by kernel_rfl) e18
            exact StepI.skip rfl (unwanted_at rfl rfl hg rfl) ⟨rfl, hI⟩
          · intro us au w1 k20 hlo hhi ha hd hst hI
            obtain rfl : k20 = 1 := by omega
            have e18 := hd 18 _ (by kernel_rfl) rfl
            have hg := slot_at (t := 62) 18 ha (by kernel_rfl) (by kernel_rfl) (by kernel_rfl) e18
            exact StepI.skip rfl (unwanted_at rfl rfl hg rfl) ⟨rfl, hI⟩
          · intro us au w1 k21 hlo hhi ha hd hst hI
            obtain rfl : k21 = 1 := by omega
            have e18 := hd 18 _ (by kernel_rfl) rfl
            have hg := slot_at (t := 62) 18 ha (by kernel_rfl) (by kernel_rfl) (by kernel_rfl) e18
            exact StepI.skip rfl (unwanted_at rfl rfl hg rfl) ⟨rfl, hI⟩
          · intro us au w1 k22 hlo hhi ha hd hst hI
            obtain rfl : k22 = 1 := by omega
            have e18 := hd 18 _ (by kernel_rfl) rfl
            have e21 := hd 21 _ (by kernel_rfl) rfl
            have e14 := hd 14 _ (by kernel_rfl) rfl
            have q62 := slot_at (t := 62) 18 ha (by kernel_rfl) (by kernel_rfl) (by kernel_rfl) e18
            have p62 := slot_norm q62
            have q65 := slot_at (t := 65) 21 ha (by kernel_rfl) (by kernel_rfl) (by kernel_rfl) e21
            have p65 := slot_norm q65
            have hg := slot_at (t := 58) 14 ha (by kernel_rfl) (by kernel_rfl) (by kernel_rfl) e14
            clear ha hd hst
            exact StepI.pure (v := .bool true) rfl (wanted_at rfl rfl hg) (by go_simp) ⟨rfl, hI⟩
          · intro us au w1 k23 hlo hhi ha hd hst hI
            obtain rfl : k23 = 1 := by omega
            have e22 := hd 22 _ (by kernel_rfl) rfl
            have e14 := hd 14 _ (by kernel_rfl) rfl
            have q66 := slot_at (t := 66) 22 ha (by kernel_rfl) (by kernel_rfl) (by kernel_rfl) e22
            have p66 := slot_norm q66
            have hg := slot_at (t := 58) 14 ha (by kernel_rfl) (by kernel_rfl) (by kernel_rfl) e14
            clear ha hd hst
            exact StepI.pure (v := .bool true) rfl (wanted_at rfl rfl hg) (by go_simp) ⟨rfl, hI⟩
          · intro us au w1 k24 hlo hhi ha hd hst hI
            obtain rfl : k24 = 1 := by omega
            have e23 := hd 23 _ (by kernel_rfl) rfl
            have hg := slot_at (t := 67) 23 ha (by kernel_rfl) (by kernel_rfl) (by kernel_rfl) e23
            exact StepI.skip rfl (unwanted_at rfl rfl hg rfl) ⟨rfl, hI⟩
          · intro us au w1 k25 hlo hhi ha hd hst hI
            obtain rfl : k25 = 1 := by omega
            have e23 := hd 23 _ (by kernel_rfl) rfl
            have hg := slot_at (t := 67) 23 ha (by kernel_rfl) (by kernel_rfl) (by kernel_rfl) e23
            exact StepI.skip rfl (unwanted_at rfl rfl hg rfl) ⟨rfl, hI⟩
          · intro us au w1 k26 hlo hhi ha hd hst hI
            obtain rfl : k26 = 1 := by omega
            have e23 := hd 23 _ (by kernel_rfl) rfl
            have hg := slot_at (t := 67) 23 ha (by kernel_rfl) (by kernel_rfl) (by kernel_rfl) e23
            exact StepI.skip rfl (unwanted_at rfl rfl hg rfl) ⟨rfl, hI⟩
          · intro us au w1 k27 hlo hhi ha hd hst hI
            obtain rfl : k27 = 1 := by omega
            have e23 := hd 23 _ (by kernel_rfl) rfl
            have e26 := hd 26 _ (by kernel_rfl) rfl
            have e14 := hd 14 _ (by kernel_rfl) rfl
            have q67 := slot_at (t := 67) 23 ha (by kernel_rfl) (by kernel_rfl) (by kernel_rfl) e23
            have p67 := slot_norm q67
            have q70 := slot_at (t := 70) 26 ha (by kernel_rfl) (by kernel_rfl) (by kernel_rfl) e26
            have p70 := slot_norm q70
            have hg := slot_at (t := 58) 14 ha (by kernel_rfl) (by kernel_rfl) (by kernel_rfl) e14
            clear ha hd hst
            exact StepI.pure (v := .bool true) rfl (wanted_at rfl rfl hg) (by go_simp) ⟨rfl, hI⟩
          · intro us au w1 k28 hlo hhi ha hd hst hI
            obtain rfl : k28 = 1 := by omega
            have e14 := hd 14 _ (by kernel_rfl) rfl
            have e27 := hd 27 _ (by kernel_rfl) rfl
            have q58 := slot_at (t := 58) 14 ha (by kernel_rfl) (by kernel_rfl) (by kernel_rfl) e14
            have p58 := slot_norm q58
            have q71 := slot_at (t := 71) 27 ha (by kernel_rfl) (by kernel_rfl) (by kernel_rfl) e27
            have p71 := slot_norm q71
            clear ha hd hst
            exact StepI.pure (v := .bool true) rfl rfl (by go_simp) ⟨rfl, hI⟩
          · intro us au w1 k29 hlo hhi ha hd hst hI
            obtain rfl : k29 = 1 := by omega
            have e28 := hd 28 _ (by kernel_rfl) rfl
            have q72 := slot_at (t := 72) 28 ha (by kernel_rfl) (by kernel_rfl) (by kernel_rfl) e28
            have p72 := slot_norm q72
            clear ha hd hst
            exact StepI.pure (v := .bool true) rfl rfl (by go_simp) ⟨rfl, hI⟩
          · intro us au w1 k30 hlo hhi ha hd hst hI
            obtain rfl : k30 = 1 := by omega
            have e29 := hd 29 _ (by kernel_rfl) rfl
            have hg := slot_at (t := 73) 29 ha (by kernel_rfl) (by kernel_rfl) (by kernel_rfl) e29
            clear ha hd hst
            refine StepI.call (f := 13) (args := #[]) rfl (wanted_at rfl rfl hg) (by go_simp) ?_
            refine (awake8_any w1 (HE.out.below (by rw [HOG.out]; exact (HBC.out.trans ((IPr.bel hI).mono (by rw [← HOG.out]; exact HBC.out.size)))))).mono ?_
            rintro e w5 ⟨rfl, hb⟩
            exact ⟨_, rfl, rfl, IPr.mono hI hb⟩
          · intro us au w1 k31 hlo hhi ha hd hst hI
            obtain rfl : k31 = 1 := by omega
            have e29 := hd 29 _ (by kernel_rfl) rfl
            have e30 := hd 30 _ (by kernel_rfl) rfl
            have q73 := slot_at (t := 73) 29 ha (by kernel_rfl) (by kernel_rfl) (by kernel_rfl) e29
            have p73 := slot_norm q73
            have q74 := slot_at (t := 74) 30 ha (by kernel_rfl) (by kernel_rfl) (by kernel_rfl) e30
            have p74 := slot_norm q74
            clear ha hd hst
            exact StepI.pure (v := .bool true) rfl rfl (by go_simp) ⟨rfl, hI⟩
          · intro us au w1 k32 hlo hhi ha hd hst hI
            obtain rfl : k32 = 1 := by omega
            have e31 := hd 31 _ (by kernel_rfl) rfl
            have q75 := slot_at (t := 75) 31 ha (by kernel_rfl) (by kernel_rfl) (by kernel_rfl) e31
            have p75 := slot_norm q75
            clear ha hd hst
            exact StepI.pure (v := .bool true) rfl rfl (by go_simp) ⟨rfl, hI⟩
        case done =>
          intro us w1 hI hd
          have e32 := hd 32 _ (by decide) rfl
          have HW := Lib.hid (HBC.out.trans ((IPr.bel hI).mono (by rw [← HOG.out]; exact HBC.out.size)))
          clear hd hI
          simp only [putAll]
          go_simp
          go_wp2
          first | go_ret | skip
          exact ⟨rfl, by rw [HOG.out]; exact HW.out⟩
      · have E2 := Lib.hid (show (kd == 2) = false by rw [beq_eq_false_iff_ne]; exact hk2)
        by_cases hnl : NL
        · have HSB := Lib.hid (HS3.out hnl hk2)
          have HLB : Hid (∀ W, Below og w W → Calls Tryz.prog 20 #[.agg #[.int .i64 kd, .string d, vL, .string t, vP, .string a, .string cm, .string o, .string nm, .int .i64 ty, .string g, .string m]] W fun e w' => Below W.heap.size W w' ∧ e = .returned (.bool true)) := Lib.hid (fun W hW => (HLN.out hk2 W hW).mono (by
            rintro e w' ⟨hb, ⟨he, hx⟩ | ⟨he, hx⟩⟩
            · first | exact ⟨hb, he⟩ | exact absurd hnl hx
            · first | exact ⟨hb, he⟩ | exact absurd hx hnl))
          clear hk1 hk4 hk2 hnl
          refine wp_region_ph (by kernel_rfl) [8] [.span 0 0, .span 0 0, .span 0 0, .span 0 0, .span 0 0, .span 0 0, .span 0 0, .span 0 0, .phase 0, .span 1 1, .span 0 1, .span 0 1, .span 1 1, .span 1 1, .span 1 1, .span 1 1, .span 1 1, .span 1 1, .span 1 1, .span 1 1, .span 1 1, .span 1 1, .span 1 1, .span 1 1, .span 1 1, .span 1 1, .span 1 1, .span 1 1, .span 1 1, .span 1 1, .span 1 1, .span 1 1, .span 1 1] [fun z9 => z9 = .int .i64 0, fun z9 => z9 = .bool true, fun z9 => z9 = .bool true, fun z9 => z9 = .iface t5 v5, fun z9 => z9 = .bool true, fun z9 => z9 = .bool true, fun z9 => z9 = .bool true, fun z9 => z9 = .iface t5 v5, fun _ => True, fun z9 => z9 = .string RS, fun z9 => z9 = .slice A2 n n, fun z9 => z9 = .string RS, fun z9 => z9 = .bool true, fun z9 => z9 = .bool true, fun z9 => z9 = .bool true, fun z9 => z9 = .pointer (some ⟨og, 0, none⟩), fun z9 => z9 = .int .i64 kd, fun z9 => z9 = .bool false, fun z9 => z9 = .bool false, fun z9 => z9 = .agg #[.int .i64 kd, .string d, vL, .string t, vP, .string a, .string cm, .string o, .string nm, .int .i64 ty, .string g, .string m], fun z9 => z9 = .bool true, fun z9 => z9 = .bool false, fun z9 => z9 = .bool false, fun z9 => z9 = .bool false, fun z9 => z9 = .iface t3 v3, fun z9 => z9 = .agg #[.int .i64 kd, .string d, vL, .string t, vP, .string a, .string cm, .string o, .string nm, .int .i64 ty, .string g, .string m], fun z9 => z9 = .bool true, fun z9 => z9 = .bool true, fun z9 => z9 = .bool true, fun z9 => z9 = .bool true, fun z9 => z9 = .bool true, fun z9 => z9 = .bool true, fun z9 => z9 = .bool true] ((IPr wc RL n)) (by kernel_rfl) (by kernel_rfl) (by kernel_rfl) (by kernel_rfl) (by kernel_rfl) (by kernel_rfl) rfl rfl ((show Below wc.heap.size wc wc.drew from (Below.refl _ _).drew)) ?steps ?done
          case steps =>
            refine ⟨?_, ?_, ?_, ?_, ?_, ?_, ?_, ?_, ?_, ?_, ?_, ?_, ?_, ?_, ?_, ?_, ?_, ?_, ?_, ?_, ?_, ?_, ?_, ?_, ?_, ?_, ?_, ?_, ?_, ?_, ?_, ?_, ?_, trivial⟩
            · intro us au w1 k0 hlo hhi ha hd hst hI
              obtain rfl : k0 = 0 := by omega
              have q7 := slot_far (t := 7) (v := .int .i64 0) ha (by kernel_rfl) (by kernel_rfl)
              have p7 := slot_norm q7
              clear ha hd hst
              exact StepI.pure (v := .int .i64 0) rfl rfl (by go_simp) ⟨rfl, hI⟩
            · intro us au w1 k1 hlo hhi ha hd hst hI
              obtain rfl : k1 = 0 := by omega
              have e0 := hd 0 _ (by kernel_rfl) rfl
              have q44 := slot_at (t := 44) 0 ha (by kernel_rfl) (by kernel_rfl) (by kernel_rfl) e0
              have p44 := slot_norm q44
              clear ha hd hst
              exact StepI.pure (v := .bool true) rfl rfl (by go_simp) ⟨rfl, hI⟩
            · intro us au w1 k2 hlo hhi ha hd hst hI
              obtain rfl : k2 = 0 := by omega
              have e1 := hd 1 _ (by kernel_rfl) rfl
              have q45 := slot_at (t := 45) 1 ha (by kernel_rfl) (by kernel_rfl) (by kernel_rfl) e1
              have p45 := slot_norm q45
              clear ha hd hst
              exact StepI.pure (v := .bool true) rfl rfl (by go_simp) ⟨rfl, hI⟩
            · intro us au w1 k3 hlo hhi ha hd hst hI
              obtain rfl : k3 = 0 := by omega
              have e2 := hd 2 _ (by kernel_rfl) rfl
              have q6 := slot_far (t := 6) (v := .iface t5 v5) ha (by kernel_rfl) (by kernel_rfl)
              have p6 := slot_norm q6
              have hg := slot_at (t := 46) 2 ha (by kernel_rfl) (by kernel_rfl) (by kernel_rfl) e2
              clear ha hd hst
              exact StepI.pure (v := .iface t5 v5) rfl (wanted_at rfl rfl hg) (by go_simp) ⟨rfl, hI⟩
            · intro us au w1 k4 hlo hhi ha hd hst hI
              obtain rfl : k4 = 0 := by omega
              have e3 := hd 3 _ (by kernel_rfl) rfl
              have e2 := hd 2 _ (by kernel_rfl) rfl
              have q47 := slot_at (t := 47) 3 ha (by kernel_rfl) (by kernel_rfl) (by kernel_rfl) e3
              have p47 := slot_norm q47
              have hg := slot_at (t := 46) 2 ha (by kernel_rfl) (by kernel_rfl) (by kernel_rfl) e2
              clear ha hd hst
              exact StepI.pure (v := .bool true) rfl (wanted_at rfl rfl hg) (by go_simp) ⟨rfl, hI⟩
            · intro us au w1 k5 hlo hhi ha hd hst hI
              obtain rfl : k5 = 0 := by omega
              have e2 := hd 2 _ (by kernel_rfl) rfl
              have e4 := hd 4 _ (by kernel_rfl) rfl
              have q46 := slot_at (t := 46) 2 ha (by kernel_rfl) (by kernel_rfl) (by kernel_rfl) e2
              have p46 := slot_norm q46
              have q48 := slot_at (t := 48) 4 ha (by kernel_rfl) (by kernel_rfl) (by kernel_rfl) e4
              have p48 := slot_norm q48
              clear ha hd hst
              exact StepI.pure (v := .bool true) rfl rfl (by go_simp) ⟨rfl, hI⟩
            · intro us au w1 k6 hlo hhi ha hd hst hI
              obtain rfl : k6 = 0 := by omega
              have e5 := hd 5 _ (by kernel_rfl) rfl
              have q49 := slot_at (t := 49) 5 ha (by kernel_rfl) (by kernel_rfl) (by kernel_rfl) e5
              have p49 := slot_norm q49
              clear ha hd hst
              exact StepI.pure (v := .bool true) rfl rfl (by go_simp) ⟨rfl, hI⟩
            · intro us au w1 k7 hlo hhi ha hd hst hI
              obtain rfl : k7 = 0 := by omega
              have e6 := hd 6 _ (by kernel_rfl) rfl
              have q6 := slot_far (t := 6) (v := .iface t5 v5) ha (by kernel_rfl) (by kernel_rfl)
              have p6 := slot_norm q6
              have hg := slot_at (t := 50) 6 ha (by kernel_rfl) (by kernel_rfl) (by kernel_rfl) e6
              clear ha hd hst
              exact StepI.pure (v := .iface t5 v5) rfl (wanted_at rfl rfl hg) (by go_simp) ⟨rfl, hI⟩
            · intro us au w1 ha hd hst hI
              have e7 := hd 7 _ (by kernel_rfl) rfl
              have e6 := hd 6 _ (by kernel_rfl) rfl
              have q51 := slot_at (t := 51) 7 ha (by kernel_rfl) (by kernel_rfl) (by kernel_rfl) e7
              have p51 := slot_norm q51
              have hg := slot_at (t := 50) 6 ha (by kernel_rfl) (by kernel_rfl) (by kernel_rfl) e6
              clear ha hd hst
              refine StepI.call (f := f5) (args := #[r5]) rfl (wanted_at rfl rfl hg) (run_invoke (x := .tmp 51) (name := "Bytes") (t := t5) (v := v5) rfl (by go_simp) (HM5.out.look _) (HM5.out.ent _)) ?_
              refine (HC5.out w1 (IPr.bel hI)).mono ?_
              rintro e w5 ⟨A5, rfl, ho5, hb5⟩
              exact ⟨_, rfl, trivial, (IPr.bel hI).trans (hb5.mono (IPr.bel hI).size), A5, _, by rw [HN.out], ho5.ints⟩
            · intro us au w1 k9 hlo hhi ha hd hst hI
              obtain rfl : k9 = 1 := by omega
              obtain ⟨e8⟩ := hd 8 _ (by kernel_rfl) rfl
              have e6 := hd 6 _ (by kernel_rfl) rfl
              have q52 := slot_at (t := 52) 8 ha (by kernel_rfl) (by kernel_rfl) (by kernel_rfl) (Eq.refl (us 8))
              have p52 := slot_norm q52
              have hg := slot_at (t := 50) 6 ha (by kernel_rfl) (by kernel_rfl) (by kernel_rfl) e6
              clear ha hd hst
              have hI0 := hI
              obtain ⟨hb, A, c, hv, hint⟩ := hI
              have hcv := run_str_ints (P := Tryz.prog) 24 9 5 Tryz.underlying24 Tryz.underlying5 Tryz.underlying9 A c RL hint
              rw [HRS.out, HN.out] at hcv
              rw [hv] at p52
              exact StepI.pure (v := .string RS) rfl (wanted_at rfl rfl hg) (by go_simp) ⟨rfl, hI0⟩
            · intro us au w1 k10 hlo hhi ha hd hst hI
              have e6 := hd 6 _ (by kernel_rfl) rfl
              have q3 := slot_far (t := 3) (v := .slice A2 n n) ha (by kernel_rfl) (by kernel_rfl)
              have p3 := slot_norm q3
              have hg := slot_at (t := 50) 6 ha (by kernel_rfl) (by kernel_rfl) (by kernel_rfl) e6
              clear ha hd hst
              exact StepI.pure (v := .slice A2 n n) rfl (wanted_at rfl rfl hg) (by go_simp) ⟨rfl, hI⟩
            · intro us au w1 k11 hlo hhi ha hd hst hI
              have e10 := hd 10 _ (by kernel_rfl) rfl
              have e6 := hd 6 _ (by kernel_rfl) rfl
              have q54 := slot_at (t := 54) 10 ha (by kernel_rfl) (by kernel_rfl) (by kernel_rfl) e10
              have p54 := slot_norm q54
              have hg := slot_at (t := 50) 6 ha (by kernel_rfl) (by kernel_rfl) (by kernel_rfl) e6
              clear ha hd hst
              have hcv := HCV.out w1 A2 ((HOC.out.lowB (IPr.bel hI)).ints)
              exact StepI.pure (v := .string RS) rfl (wanted_at rfl rfl hg) (by go_simp) ⟨rfl, hI⟩
            · intro us au w1 k12 hlo hhi ha hd hst hI
              obtain rfl : k12 = 1 := by omega
              have e9 := hd 9 _ (by kernel_rfl) rfl
              have e11 := hd 11 _ (by kernel_rfl) rfl
              have e6 := hd 6 _ (by kernel_rfl) rfl
              have q53 := slot_at (t := 53) 9 ha (by kernel_rfl) (by kernel_rfl) (by kernel_rfl) e9
              have p53 := slot_norm q53
              have q55 := slot_at (t := 55) 11 ha (by kernel_rfl) (by kernel_rfl) (by kernel_rfl) e11
              have p55 := slot_norm q55
              have hg := slot_at (t := 50) 6 ha (by kernel_rfl) (by kernel_rfl) (by kernel_rfl) e6
              clear ha hd hst
              exact StepI.pure (v := .bool true) rfl (wanted_at rfl rfl hg) (by go_simp) ⟨rfl, hI⟩
            · intro us au w1 k13 hlo hhi ha hd hst hI
              obtain rfl : k13 = 1 := by omega
              have e6 := hd 6 _ (by kernel_rfl) rfl
              have e12 := hd 12 _ (by kernel_rfl) rfl
              have q50 := slot_at (t := 50) 6 ha (by kernel_rfl) (by kernel_rfl) (by kernel_rfl) e6
              have p50 := slot_norm q50
              have q56 := slot_at (t := 56) 12 ha (by kernel_rfl) (by kernel_rfl) (by kernel_rfl) e12
              have p56 := slot_norm q56
              clear ha hd hst
              exact StepI.pure (v := .bool true) rfl rfl (by go_simp) ⟨rfl, hI⟩
            · intro us au w1 k14 hlo hhi ha hd hst hI
              obtain rfl : k14 = 1 := by omega
              have e13 := hd 13 _ (by kernel_rfl) rfl
              have q57 := slot_at (t := 57) 13 ha (by kernel_rfl) (by kernel_rfl) (by kernel_rfl) e13
              have p57 := slot_norm q57
              clear ha hd hst
              exact StepI.pure (v := .bool true) rfl rfl (by go_simp) ⟨rfl, hI⟩
            · intro us au w1 k15 hlo hhi ha hd hst hI
              obtain rfl : k15 = 1 := by omega
              have e14 := hd 14 _ (by kernel_rfl) rfl
              have q1 := slot_far (t := 1) (v := .pointer (some ⟨og, 0, none⟩)) ha (by kernel_rfl) (by kernel_rfl)
              have p1 := slot_norm q1
              have hg := slot_at (t := 58) 14 ha (by kernel_rfl) (by kernel_rfl) (by kernel_rfl) e14
              clear ha hd hst
              exact StepI.pure (v := .pointer (some ⟨og, 0, none⟩)) rfl (wanted_at rfl rfl hg) (by go_simp) ⟨rfl, hI⟩
            · intro us au w1 k16 hlo hhi ha hd hst hI
              obtain rfl : k16 = 1 := by omega
              have e15 := hd 15 _ (by kernel_rfl) rfl
              have e14 := hd 14 _ (by kernel_rfl) rfl
              have q59 := slot_at (t := 59) 15 ha (by kernel_rfl) (by kernel_rfl) (by kernel_rfl) e15
              have p59 := slot_norm q59
              have hg := slot_at (t := 58) 14 ha (by kernel_rfl) (by kernel_rfl) (by kernel_rfl) e14
              clear ha hd hst
              have kk := (HOOC.out.below (IPr.bel hI)).c0
              exact StepI.pure (v := .int .i64 kd) rfl (wanted_at rfl rfl hg) (by go_simp) ⟨rfl, hI⟩
            · intro us au w1 k17 hlo hhi ha hd hst hI
              obtain rfl : k17 = 1 := by omega
              have e16 := hd 16 _ (by kernel_rfl) rfl
              have e14 := hd 14 _ (by kernel_rfl) rfl
              have q60 := slot_at (t := 60) 16 ha (by kernel_rfl) (by kernel_rfl) (by kernel_rfl) e16
              have p60 := slot_norm q60
              have hg := slot_at (t := 58) 14 ha (by kernel_rfl) (by kernel_rfl) (by kernel_rfl) e14
              clear ha hd hst
              have ee := E2.out
              exact StepI.pure (v := .bool false) rfl (wanted_at rfl rfl hg) (by go_simp) ⟨rfl, hI⟩
            · intro us au w1 k18 hlo hhi ha hd hst hI
              obtain rfl : k18 = 1 := by omega
              have e17 := hd 17 _ (by kernel_rfl) rfl
              have e14 := hd 14 _ (by kernel_rfl) rfl
              have q61 := slot_at (t := 61) 17 ha (by kernel_rfl) (by kernel_rfl) (by kernel_rfl) e17
              have p61 := slot_norm q61
              have hg := slot_at (t := 58) 14 ha (by kernel_rfl) (by kernel_rfl) (by kernel_rfl) e14
              clear ha hd hst
              exact StepI.pure (v := .bool false) rfl (wanted_at rfl rfl hg) (by go_simp) ⟨rfl, hI⟩
            · intro us au w1 k19 hlo hhi ha hd hst hI
              obtain rfl : k19 = 1 := by omega
              have e18 := hd 18 _ (by kernel_rfl) rfl
              have q1 := slot_far (t := 1) (v := .pointer (some ⟨og, 0, none⟩)) ha (by kernel_rfl) (by kernel_rfl)
              have p1 := slot_norm q1
              have hg := slot_at (t := 62) 18 ha (by kernel_rfl) (by kernel_rfl) (by kernel_rfl) e18
              clear ha hd hst
              have kk := HOOC.out.below (IPr.bel hI)
              have kk0 := kk.c0
              have kk1 := kk.c1
              have kk2 := kk.c2
              have kk3 := kk.c3
              have kk4 := kk.c4
              have kk5 := kk.c5
              have kk6 := kk.c6
              have kk7 := kk.c7
              have kk8 := kk.c8
              have kk9 := kk.c9
              have kk10 := kk.c10
              have kk11 := kk.c11
              exact StepI.pure (v := .agg #[.int .i64 kd, .string d, vL, .string t, vP, .string a, .string cm, .string o, .string nm, .int .i64 ty, .string g, .string m]) rfl (wanted_at rfl rfl hg) (by go_simp) ⟨rfl, hI⟩
            · intro us au w1 k20 hlo hhi ha hd hst hI
              obtain rfl : k20 = 1 := by omega
              have e19 := hd 19 _ (by kernel_rfl) rfl
              have e18 := hd 18 _ (by kernel_rfl) rfl
              have q63 := slot_at (t := 63) 19 ha (by kernel_rfl) (by kernel_rfl) (by kernel_rfl) e19
              have p63 := slot_norm q63
              have hg := slot_at (t := 62) 18 ha (by kernel_rfl) (by kernel_rfl) (by kernel_rfl) e18
              clear ha hd hst
              refine StepI.call (f := 20) (args := #[.agg #[.int .i64 kd, .string d, vL, .string t, vP, .string a, .string cm, .string o, .string nm, .int .i64 ty, .string g, .string m]]) rfl (wanted_at rfl rfl hg) (by go_simp) ?_
              refine (HLB.out w1 (HBC.out.trans ((IPr.bel hI).mono (by rw [← HOG.out]; exact HBC.out.size)))).mono ?_
              rintro e w5 ⟨hb, rfl⟩
              exact ⟨_, rfl, rfl, IPr.mono hI hb⟩
            · intro us au w1 k21 hlo hhi ha hd hst hI
              obtain rfl : k21 = 1 := by omega
              have e20 := hd 20 _ (by kernel_rfl) rfl
              have e18 := hd 18 _ (by kernel_rfl) rfl
              have q64 := slot_at (t := 64) 20 ha (by kernel_rfl) (by kernel_rfl) (by kernel_rfl) e20
              have p64 := slot_norm q64
              have hg := slot_at (t := 62) 18 ha (by kernel_rfl) (by kernel_rfl) (by kernel_rfl) e18
              clear ha hd hst
              exact StepI.pure (v := .bool false) rfl (wanted_at rfl rfl hg) (by go_simp) ⟨rfl, hI⟩
            · intro us au w1 k22 hlo hhi ha hd hst hI
              obtain rfl : k22 = 1 := by omega
              have e18 := hd 18 _ (by kernel_rfl) rfl
              have e21 := hd 21 _ (by kernel_rfl) rfl
              have e14 := hd 14 _ (by kernel_rfl) rfl
              have q62 := slot_at (t := 62) 18 ha (by kernel_rfl) (by kernel_rfl) (by kernel_rfl) e18
              have p62 := slot_norm q62
              have q65 := slot_at (t := 65) 21 ha (by kernel_rfl) (by kernel_rfl) (by kernel_rfl) e21
              have p65 := slot_norm q65
              have hg := slot_at (t := 58) 14 ha (by kernel_rfl) (by kernel_rfl) (by kernel_rfl) e14
              clear ha hd hst
              exact StepI.pure (v := .bool false) rfl (wanted_at rfl rfl hg) (by go_simp) ⟨rfl, hI⟩
            · intro us au w1 k23 hlo hhi ha hd hst hI
              obtain rfl : k23 = 1 := by omega
              have e22 := hd 22 _ (by kernel_rfl) rfl
              have e14 := hd 14 _ (by kernel_rfl) rfl
              have q66 := slot_at (t := 66) 22 ha (by kernel_rfl) (by kernel_rfl) (by kernel_rfl) e22
              have p66 := slot_norm q66
              have hg := slot_at (t := 58) 14 ha (by kernel_rfl) (by kernel_rfl) (by kernel_rfl) e14
              clear ha hd hst
              exact StepI.pure (v := .bool false) rfl (wanted_at rfl rfl hg) (by go_simp) ⟨rfl, hI⟩
            · intro us au w1 k24 hlo hhi ha hd hst hI
              obtain rfl : k24 = 1 := by omega
              have e23 := hd 23 _ (by kernel_rfl) rfl
              have q4 := slot_far (t := 4) (v := .iface t3 v3) ha (by kernel_rfl) (by kernel_rfl)
              have p4 := slot_norm q4
              have hg := slot_at (t := 67) 23 ha (by kernel_rfl) (by kernel_rfl) (by kernel_rfl) e23
              clear ha hd hst
              exact StepI.pure (v := .iface t3 v3) rfl (wanted_at rfl rfl hg) (by go_simp) ⟨rfl, hI⟩
            · intro us au w1 k25 hlo hhi ha hd hst hI
              obtain rfl : k25 = 1 := by omega
              have e23 := hd 23 _ (by kernel_rfl) rfl
              have q1 := slot_far (t := 1) (v := .pointer (some ⟨og, 0, none⟩)) ha (by kernel_rfl) (by kernel_rfl)
              have p1 := slot_norm q1
              have hg := slot_at (t := 67) 23 ha (by kernel_rfl) (by kernel_rfl) (by kernel_rfl) e23
              clear ha hd hst
              have kk := HOOC.out.below (IPr.bel hI)
              have kk0 := kk.c0
              have kk1 := kk.c1
              have kk2 := kk.c2
              have kk3 := kk.c3
              have kk4 := kk.c4
              have kk5 := kk.c5
              have kk6 := kk.c6
              have kk7 := kk.c7
              have kk8 := kk.c8
              have kk9 := kk.c9
              have kk10 := kk.c10
              have kk11 := kk.c11
              exact StepI.pure (v := .agg #[.int .i64 kd, .string d, vL, .string t, vP, .string a, .string cm, .string o, .string nm, .int .i64 ty, .string g, .string m]) rfl (wanted_at rfl rfl hg) (by go_simp) ⟨rfl, hI⟩
            · intro us au w1 k26 hlo hhi ha hd hst hI
              obtain rfl : k26 = 1 := by omega
              have e24 := hd 24 _ (by kernel_rfl) rfl
              have e25 := hd 25 _ (by kernel_rfl) rfl
              have e23 := hd 23 _ (by kernel_rfl) rfl
              have q68 := slot_at (t := 68) 24 ha (by kernel_rfl) (by kernel_rfl) (by kernel_rfl) e24
              have p68 := slot_norm q68
              have q69 := slot_at (t := 69) 25 ha (by kernel_rfl) (by kernel_rfl) (by kernel_rfl) e25
              have p69 := slot_norm q69
              have hg := slot_at (t := 67) 23 ha (by kernel_rfl) (by kernel_rfl) (by kernel_rfl) e23
              clear ha hd hst
              refine StepI.call (f := 21) (args := #[.iface t3 v3, .agg #[.int .i64 kd, .string d, vL, .string t, vP, .string a, .string cm, .string o, .string nm, .int .i64 ty, .string g, .string m]]) rfl (wanted_at rfl rfl hg) (by go_simp) ?_
              refine (HSB.out w1 (HBW.out.trans ((IPr.bel hI).mono HBW.out.size))).mono ?_
              rintro e w5 ⟨rfl, hb⟩
              exact ⟨_, rfl, rfl, IPr.mono hI hb⟩
            · intro us au w1 k27 hlo hhi ha hd hst hI
              obtain rfl : k27 = 1 := by omega
              have e23 := hd 23 _ (by kernel_rfl) rfl
              have e26 := hd 26 _ (by kernel_rfl) rfl
              have e14 := hd 14 _ (by kernel_rfl) rfl
              have q67 := slot_at (t := 67) 23 ha (by kernel_rfl) (by kernel_rfl) (by kernel_rfl) e23
              have p67 := slot_norm q67
              have q70 := slot_at (t := 70) 26 ha (by kernel_rfl) (by kernel_rfl) (by kernel_rfl) e26
              have p70 := slot_norm q70
              have hg := slot_at (t := 58) 14 ha (by kernel_rfl) (by kernel_rfl) (by kernel_rfl) e14
              clear ha hd hst
              exact StepI.pure (v := .bool true) rfl (wanted_at rfl rfl hg) (by go_simp) ⟨rfl, hI⟩
            · intro us au w1 k28 hlo hhi ha hd hst hI
              obtain rfl : k28 = 1 := by omega
              have e14 := hd 14 _ (by kernel_rfl) rfl
              have e27 := hd 27 _ (by kernel_rfl) rfl
              have q58 := slot_at (t := 58) 14 ha (by kernel_rfl) (by kernel_rfl) (by kernel_rfl) e14
              have p58 := slot_norm q58
              have q71 := slot_at (t := 71) 27 ha (by kernel_rfl) (by kernel_rfl) (by kernel_rfl) e27
              have p71 := slot_norm q71
              clear ha hd hst
              exact StepI.pure (v := .bool true) rfl rfl (by go_simp) ⟨rfl, hI⟩
            · intro us au w1 k29 hlo hhi ha hd hst hI
              obtain rfl : k29 = 1 := by omega
              have e28 := hd 28 _ (by kernel_rfl) rfl
              have q72 := slot_at (t := 72) 28 ha (by kernel_rfl) (by kernel_rfl) (by kernel_rfl) e28
              have p72 := slot_norm q72
              clear ha hd hst
              exact StepI.pure (v := .bool true) rfl rfl (by go_simp) ⟨rfl, hI⟩
            · intro us au w1 k30 hlo hhi ha hd hst hI
              obtain rfl : k30 = 1 := by omega
              have e29 := hd 29 _ (by kernel_rfl) rfl
              have hg := slot_at (t := 73) 29 ha (by kernel_rfl) (by kernel_rfl) (by kernel_rfl) e29
              clear ha hd hst
              refine StepI.call (f := 13) (args := #[]) rfl (wanted_at rfl rfl hg) (by go_simp) ?_
              refine (awake8_any w1 (HE.out.below (by rw [HOG.out]; exact (HBC.out.trans ((IPr.bel hI).mono (by rw [← HOG.out]; exact HBC.out.size)))))).mono ?_
              rintro e w5 ⟨rfl, hb⟩
              exact ⟨_, rfl, rfl, IPr.mono hI hb⟩
            · intro us au w1 k31 hlo hhi ha hd hst hI
              obtain rfl : k31 = 1 := by omega
              have e29 := hd 29 _ (by kernel_rfl) rfl
              have e30 := hd 30 _ (by kernel_rfl) rfl
              have q73 := slot_at (t := 73) 29 ha (by kernel_rfl) (by kernel_rfl) (by kernel_rfl) e29
              have p73 := slot_norm q73
              have q74 := slot_at (t := 74) 30 ha (by kernel_rfl) (by kernel_rfl) (by kernel_rfl) e30
              have p74 := slot_norm q74
              clear ha hd hst
              exact StepI.pure (v := .bool true) rfl rfl (by go_simp) ⟨rfl, hI⟩
            · intro us au w1 k32 hlo hhi ha hd hst hI
              obtain rfl : k32 = 1 := by omega
              have e31 := hd 31 _ (by kernel_rfl) rfl
              have q75 := slot_at (t := 75) 31 ha (by kernel_rfl) (by kernel_rfl) (by kernel_rfl) e31
              have p75 := slot_norm q75
              clear ha hd hst
              exact StepI.pure (v := .bool true) rfl rfl (by go_simp) ⟨rfl, hI⟩
          case done =>
            intro us w1 hI hd
            have e32 := hd 32 _ (by decide) rfl
            have HW := Lib.hid (HBC.out.trans ((IPr.bel hI).mono (by rw [← HOG.out]; exact HBC.out.size)))
            clear hd hI
            simp only [putAll]
            go_simp
            go_wp2
            first | go_ret | skip
            exact ⟨rfl, by rw [HOG.out]; exact HW.out⟩
        · have HLB : Hid (∀ W, Below og w W → Calls Tryz.prog 20 #[.agg #[.int .i64 kd, .string d, vL, .string t, vP, .string a, .string cm, .string o, .string nm, .int .i64 ty, .string g, .string m]] W fun e w' => Below W.heap.size W w' ∧ e = .returned (.bool false)) := Lib.hid (fun W hW => (HLN.out hk2 W hW).mono (by
            rintro e w' ⟨hb, ⟨he, hx⟩ | ⟨he, hx⟩⟩
            · first | exact ⟨hb, he⟩ | exact absurd hnl hx
            · first | exact ⟨hb, he⟩ | exact absurd hx hnl))
          clear hk1 hk4 hk2 hnl
          refine wp_region_ph (by kernel_rfl) [8] [.span 0 0, .span 0 0, .span 0 0, .span 0 0, .span 0 0, .span 0 0, .span 0 0, .span 0 0, .phase 0, .span 1 1, .span 0 1, .span 0 1, .span 1 1, .span 1 1, .span 1 1, .span 1 1, .span 1 1, .span 1 1, .span 1 1, .span 1 1, .span 1 1, .span 1 1, .span 1 1, .span 1 1, .span 1 1, .span 1 1, .span 1 1, .span 1 1, .span 1 1, .span 1 1, .span 1 1, .span 1 1, .span 1 1] [fun z9 => z9 = .int .i64 0, fun z9 => z9 = .bool true, fun z9 => z9 = .bool true, fun z9 => z9 = .iface t5 v5, fun z9 => z9 = .bool true, fun z9 => z9 = .bool true, fun z9 => z9 = .bool true, fun z9 => z9 = .iface t5 v5, fun _ => True, fun z9 => z9 = .string RS, fun z9 => z9 = .slice A2 n n, fun z9 => z9 = .string RS, fun z9 => z9 = .bool true, fun z9 => z9 = .bool true, fun z9 => z9 = .bool true, fun z9 => z9 = .pointer (some ⟨og, 0, none⟩), fun z9 => z9 = .int .i64 kd, fun z9 => z9 = .bool false, fun z9 => z9 = .bool false, fun z9 => z9 = .agg #[.int .i64 kd, .string d, vL, .string t, vP, .string a, .string cm, .string o, .string nm, .int .i64 ty, .string g, .string m], fun z9 => z9 = .bool false, fun z9 => z9 = .bool true, fun z9 => z9 = .bool true, fun z9 => z9 = .bool true, fun z9 => z9 = undef, fun z9 => z9 = undef, fun z9 => z9 = undef, fun z9 => z9 = .bool true, fun z9 => z9 = .bool true, fun z9 => z9 = .bool true, fun z9 => z9 = .bool true, fun z9 => z9 = .bool true, fun z9 => z9 = .bool true] ((IPr wc RL n)) (by kernel_rfl) (by kernel_rfl) (by kernel_rfl) (by kernel_rfl) (by kernel_rfl) (by kernel_rfl) rfl rfl ((show Below wc.heap.size wc wc.drew from (Below.refl _ _).drew)) ?steps ?done
          case steps =>
            refine ⟨?_, ?_, ?_, ?_, ?_, ?_, ?_, ?_, ?_, ?_, ?_, ?_, ?_, ?_, ?_, ?_, ?_, ?_, ?_, ?_, ?_, ?_, ?_, ?_, ?_, ?_, ?_, ?_, ?_, ?_, ?_, ?_, ?_, trivial⟩
            · intro us au w1 k0 hlo hhi ha hd hst hI
              obtain rfl : k0 = 0 := by omega
              have q7 := slot_far (t := 7) (v := .int .i64 0) ha (by kernel_rfl) (by kernel_rfl)
              have p7 := slot_norm q7
              clear ha hd hst
              exact StepI.pure (v := .int .i64 0) rfl rfl (by go_simp) ⟨rfl, hI⟩
            · intro us au w1 k1 hlo hhi ha hd hst hI
              obtain rfl : k1 = 0 := by omega
              have e0 := hd 0 _ (by kernel_rfl) rfl
              have q44 := slot_at (t := 44) 0 ha (by kernel_rfl) (by kernel_rfl) (by kernel_rfl) e0
              have p44 := slot_norm q44
              clear ha hd hst
              exact StepI.pure (v := .bool true) rfl rfl (by go_simp) ⟨rfl, hI⟩
            · intro us au w1 k2 hlo hhi ha hd hst hI
              obtain rfl : k2 = 0 := by omega
              have e1 := hd 1 _ (by kernel_rfl) rfl
              have q45 := slot_at (t := 45) 1 ha (by kernel_rfl) (by kernel_rfl) (by kernel_rfl) e1
              have p45 := slot_norm q45
              clear ha hd hst
              exact StepI.pure (v := .bool true) rfl rfl (by go_simp) ⟨rfl, hI⟩
            · intro us au w1 k3 hlo hhi ha hd hst hI
              obtain rfl : k3 = 0 := by omega
              have e2 := hd 2 _ (by kernel_rfl) rfl
              have q6 := slot_far (t := 6) (v := .iface t5 v5) ha (by kernel_rfl) (by kernel_rfl)
              have p6 := slot_norm q6
              have hg := slot_at (t := 46) 2 ha (by kernel_rfl) (by kernel_rfl) (by kernel_rfl) e2
              clear ha hd hst
              exact StepI.pure (v := .iface t5 v5) rfl (wanted_at rfl rfl hg) (by go_simp) ⟨rfl, hI⟩
            · intro us au w1 k4 hlo hhi ha hd hst hI
              obtain rfl : k4 = 0 := by omega
              have e3 := hd 3 _ (by kernel_rfl) rfl
              have e2 := hd 2 _ (by kernel_rfl) rfl
              have q47 := slot_at (t := 47) 3 ha (by kernel_rfl) (by kernel_rfl) (by kernel_rfl) e3
              have p47 := slot_norm q47
              have hg := slot_at (t := 46) 2 ha (by kernel_rfl) (by kernel_rfl) (by kernel_rfl) e2
              clear ha hd hst
              exact StepI.pure (v := .bool true) rfl (wanted_at rfl rfl hg) (by go_simp) ⟨rfl, hI⟩
            · intro us au w1 k5 hlo hhi ha hd hst hI
              obtain rfl : k5 = 0 := by omega
              have e2 := hd 2 _ (by kernel_rfl) rfl
              have e4 := hd 4 _ (by kernel_rfl) rfl
              have q46 := slot_at (t := 46) 2 ha (by kernel_rfl) (by kernel_rfl) (by kernel_rfl) e2
              have p46 := slot_norm q46
              have q48 := slot_at (t := 48) 4 ha (by kernel_rfl) (by kernel_rfl) (by kernel_rfl) e4
              have p48 := slot_norm q48
              clear ha hd hst
              exact StepI.pure (v := .bool true) rfl rfl (by go_simp) ⟨rfl, hI⟩
            · intro us au w1 k6 hlo hhi ha hd hst hI
              obtain rfl : k6 = 0 := by omega
              have e5 := hd 5 _ (by kernel_rfl) rfl
              have q49 := slot_at (t := 49) 5 ha (by kernel_rfl) (by kernel_rfl) (by kernel_rfl) e5
              have p49 := slot_norm q49
              clear ha hd hst
              exact StepI.pure (v := .bool true) rfl rfl (by go_simp) ⟨rfl, hI⟩
            · intro us au w1 k7 hlo hhi ha hd hst hI
              obtain rfl : k7 = 0 := by omega
              have e6 := hd 6 _ (by kernel_rfl) rfl
              have q6 := slot_far (t := 6) (v := .iface t5 v5) ha (by kernel_rfl) (by kernel_rfl)
              have p6 := slot_norm q6
              have hg := slot_at (t := 50) 6 ha (by kernel_rfl) (by kernel_rfl) (by kernel_rfl) e6
              clear ha hd hst
              exact StepI.pure (v := .iface t5 v5) rfl (wanted_at rfl rfl hg) (by go_simp) ⟨rfl, hI⟩
            · intro us au w1 ha hd hst hI
              have e7 := hd 7 _ (by kernel_rfl) rfl
              have e6 := hd 6 _ (by kernel_rfl) rfl
              have q51 := slot_at (t := 51) 7 ha (by kernel_rfl) (by kernel_rfl) (by kernel_rfl) e7
              have p51 := slot_norm q51
              have hg := slot_at (t := 50) 6 ha (by kernel_rfl) (by kernel_rfl) (by kernel_rfl) e6
              clear ha hd hst
              refine StepI.call (f := f5) (args := #[r5]) rfl (wanted_at rfl rfl hg) (run_invoke (x := .tmp 51) (name := "Bytes") (t := t5) (v := v5) rfl (by go_simp) (HM5.out.look _) (HM5.out.ent _)) ?_
              refine (HC5.out w1 (IPr.bel hI)).mono ?_
              rintro e w5 ⟨A5, rfl, ho5, hb5⟩
              exact ⟨_, rfl, trivial, (IPr.bel hI).trans (hb5.mono (IPr.bel hI).size), A5, _, by rw [HN.out], ho5.ints⟩
            · intro us au w1 k9 hlo hhi ha hd hst hI
              obtain rfl : k9 = 1 := by omega
              obtain ⟨e8⟩ := hd 8 _ (by kernel_rfl) rfl
              have e6 := hd 6 _ (by kernel_rfl) rfl
              have q52 := slot_at (t := 52) 8 ha (by kernel_rfl) (by kernel_rfl) (by kernel_rfl) (Eq.refl (us 8))
              have p52 := slot_norm q52
              have hg := slot_at (t := 50) 6 ha (by kernel_rfl) (by kernel_rfl) (by kernel_rfl) e6
              clear ha hd hst
              have hI0 := hI
              obtain ⟨hb, A, c, hv, hint⟩ := hI
              have hcv := run_str_ints (P := Tryz.prog) 24 9 5 Tryz.underlying24 Tryz.underlying5 Tryz.underlying9 A c RL hint
              rw [HRS.out, HN.out] at hcv
              rw [hv] at p52
              exact StepI.pure (v := .string RS) rfl (wanted_at rfl rfl hg) (by go_simp) ⟨rfl, hI0⟩
            · intro us au w1 k10 hlo hhi ha hd hst hI
              have e6 := hd 6 _ (by kernel_rfl) rfl
              have q3 := slot_far (t := 3) (v := .slice A2 n n) ha (by kernel_rfl) (by kernel_rfl)
              have p3 := slot_norm q3
              have hg := slot_at (t := 50) 6 ha (by kernel_rfl) (by kernel_rfl) (by kernel_rfl) e6
              clear ha hd hst
              exact StepI.pure (v := .slice A2 n n) rfl (wanted_at rfl rfl hg) (by go_simp) ⟨rfl, hI⟩
            · intro us au w1 k11 hlo hhi ha hd hst hI
              have e10 := hd 10 _ (by kernel_rfl) rfl
              have e6 := hd 6 _ (by kernel_rfl) rfl
              have q54 := slot_at (t := 54) 10 ha (by kernel_rfl) (by kernel_rfl) (by kernel_rfl) e10
              have p54 := slot_norm q54
              have hg := slot_at (t := 50) 6 ha (by kernel_rfl) (by kernel_rfl) (by kernel_rfl) e6
              clear ha hd hst
              have hcv := HCV.out w1 A2 ((HOC.out.lowB (IPr.bel hI)).ints)
              exact StepI.pure (v := .string RS) rfl (wanted_at rfl rfl hg) (by go_simp) ⟨rfl, hI⟩
            · intro us au w1 k12 hlo hhi ha hd hst hI
              obtain rfl : k12 = 1 := by omega
              have e9 := hd 9 _ (by kernel_rfl) rfl
              have e11 := hd 11 _ (by kernel_rfl) rfl
              have e6 := hd 6 _ (by kernel_rfl) rfl
              have q53 := slot_at (t := 53) 9 ha (by kernel_rfl) (by kernel_rfl) (by kernel_rfl) e9
              have p53 := slot_norm q53
              have q55 := slot_at (t := 55) 11 ha (by kernel_rfl) (by kernel_rfl) (by kernel_rfl) e11
              have p55 := slot_norm q55
              have hg := slot_at (t := 50) 6 ha (by kernel_rfl) (by kernel_rfl) (by kernel_rfl) e6
              clear ha hd hst
              exact StepI.pure (v := .bool true) rfl (wanted_at rfl rfl hg) (by go_simp) ⟨rfl, hI⟩
            · intro us au w1 k13 hlo hhi ha hd hst hI
              obtain rfl : k13 = 1 := by omega
              have e6 := hd 6 _ (by kernel_rfl) rfl
              have e12 := hd 12 _ (by kernel_rfl) rfl
              have q50 := slot_at (t := 50) 6 ha (by kernel_rfl) (by kernel_rfl) (by kernel_rfl) e6
              have p50 := slot_norm q50
              have q56 := slot_at (t := 56) 12 ha (by kernel_rfl) (by kernel_rfl) (by kernel_rfl) e12
              have p56 := slot_norm q56
              clear ha hd hst
              exact StepI.pure (v := .bool true) rfl rfl (by go_simp) ⟨rfl, hI⟩
            · intro us au w1 k14 hlo hhi ha hd hst hI
              obtain rfl : k14 = 1 := by omega
              have e13 := hd 13 _ (by kernel_rfl) rfl
              have q57 := slot_at (t := 57) 13 ha (by kernel_rfl) (by kernel_rfl) (by kernel_rfl) e13
              have p57 := slot_norm q57
              clear ha hd hst
              exact StepI.pure (v := .bool true) rfl rfl (by go_simp) ⟨rfl, hI⟩
            · intro us au w1 k15 hlo hhi ha hd hst hI
              obtain rfl : k15 = 1 := by omega
              have e14 := hd 14 _ (by kernel_rfl) rfl
              have q1 := slot_far (t := 1) (v := .pointer (some ⟨og, 0, none⟩)) ha (by kernel_rfl) (by kernel_rfl)
              have p1 := slot_norm q1
              have hg := slot_at (t := 58) 14 ha (by kernel_rfl) (by kernel_rfl) (by kernel_rfl) e14
              clear ha hd hst
              exact StepI.pure (v := .pointer (some ⟨og, 0, none⟩)) rfl (wanted_at rfl rfl hg) (by go_simp) ⟨rfl, hI⟩
            · intro us au w1 k16 hlo hhi ha hd hst hI
              obtain rfl : k16 = 1 := by omega
              have e15 := hd 15 _ (by kernel_rfl) rfl
              have e14 := hd 14 _ (by kernel_rfl) rfl
              have q59 := slot_at (t := 59) 15 ha (by kernel_rfl) (by kernel_rfl) (by kernel_rfl) e15
              have p59 := slot_norm q59
              have hg := slot_at (t := 58) 14 ha (by kernel_rfl) (by kernel_rfl) (by kernel_rfl) e14
              clear ha hd hst
              have kk := (HOOC.out.below (IPr.bel hI)).c0
              exact StepI.pure (v := .int .i64 kd) rfl (wanted_at rfl rfl hg) (by go_simp) ⟨rfl, hI⟩
            · intro us au w1 k17 hlo hhi ha hd hst hI
              obtain rfl : k17 = 1 := by omega
              have e16 := hd 16 _ (by kernel_rfl) rfl
              have e14 := hd 14 _ (by kernel_rfl) rfl
              have q60 := slot_at (t := 60) 16 ha (by kernel_rfl) (by kernel_rfl) (by kernel_rfl) e16
              have p60 := slot_norm q60
              have hg := slot_at (t := 58) 14 ha (by kernel_rfl) (by kernel_rfl) (by kernel_rfl) e14
              clear ha hd hst
              have ee := E2.out
              exact StepI.pure (v := .bool false) rfl (wanted_at rfl rfl hg) (by go_simp) ⟨rfl, hI⟩
            · intro us au w1 k18 hlo hhi ha hd hst hI
              obtain rfl : k18 = 1 := by omega
              have e17 := hd 17 _ (by kernel_rfl) rfl
              have e14 := hd 14 _ (by kernel_rfl) rfl
              have q61 := slot_at (t := 61) 17 ha (by kernel_rfl) (by kernel_rfl) (by kernel_rfl) e17
              have p61 := slot_norm q61
              have hg := slot_at (t := 58) 14 ha (by kernel_rfl) (by kernel_rfl) (by kernel_rfl) e14
              clear ha hd hst
              exact StepI.pure (v := .bool false) rfl (wanted_at rfl rfl hg) (by go_simp) ⟨rfl, hI⟩
            · intro us au w1 k19 hlo hhi ha hd hst hI
              obtain rfl : k19 = 1 := by omega
              have e18 := hd 18 _ (by kernel_rfl) rfl
              have q1 := slot_far (t := 1) (v := .pointer (some ⟨og, 0, none⟩)) ha (by kernel_rfl) (by kernel_rfl)
              have p1 := slot_norm q1
              have hg := slot_at (t := 62) 18 ha (by kernel_rfl) (by kernel_rfl) (by kernel_rfl) e18
              clear ha hd hst
              have kk := HOOC.out.below (IPr.bel hI)
              have kk0 := kk.c0
              have kk1 := kk.c1
              have kk2 := kk.c2
              have kk3 := kk.c3
              have kk4 := kk.c4
              have kk5 := kk.c5
              have kk6 := kk.c6
              have kk7 := kk.c7
              have kk8 := kk.c8
              have kk9 := kk.c9
              have kk10 := kk.c10
              have kk11 := kk.c11
              exact StepI.pure (v := .agg #[.int .i64 kd, .string d, vL, .string t, vP, .string a, .string cm, .string o, .string nm, .int .i64 ty, .string g, .string m]) rfl (wanted_at rfl rfl hg) (by go_simp) ⟨rfl, hI⟩
            · intro us au w1 k20 hlo hhi ha hd hst hI
              obtain rfl : k20 = 1 := by omega
              have e19 := hd 19 _ (by kernel_rfl) rfl
              have e18 := hd 18 _ (by kernel_rfl) rfl
              have q63 := slot_at (t := 63) 19 ha (by kernel_rfl) (by kernel_rfl) (by kernel_rfl) e19
              have p63 := slot_norm q63
              have hg := slot_at (t := 62) 18 ha (by kernel_rfl) (by kernel_rfl) (by kernel_rfl) e18
              clear ha hd hst
              refine StepI.call (f := 20) (args := #[.agg #[.int .i64 kd, .string d, vL, .string t, vP, .string a, .string cm, .string o, .string nm, .int .i64 ty, .string g, .string m]]) rfl (wanted_at rfl rfl hg) (by go_simp) ?_
              refine (HLB.out w1 (HBC.out.trans ((IPr.bel hI).mono (by rw [← HOG.out]; exact HBC.out.size)))).mono ?_
              rintro e w5 ⟨hb, rfl⟩
              exact ⟨_, rfl, rfl, IPr.mono hI hb⟩
            · intro us au w1 k21 hlo hhi ha hd hst hI
              obtain rfl : k21 = 1 := by omega
              have e20 := hd 20 _ (by kernel_rfl) rfl
              have e18 := hd 18 _ (by kernel_rfl) rfl
              have q64 := slot_at (t := 64) 20 ha (by kernel_rfl) (by kernel_rfl) (by kernel_rfl) e20
              have p64 := slot_norm q64
              have hg := slot_at (t := 62) 18 ha (by kernel_rfl) (by kernel_rfl) (by kernel_rfl) e18
              clear ha hd hst
              exact StepI.pure (v := .bool true) rfl (wanted_at rfl rfl hg) (by go_simp) ⟨rfl, hI⟩
            · intro us au w1 k22 hlo hhi ha hd hst hI
              obtain rfl : k22 = 1 := by omega
              have e18 := hd 18 _ (by kernel_rfl) rfl
              have e21 := hd 21 _ (by kernel_rfl) rfl
              have e14 := hd 14 _ (by kernel_rfl) rfl
              have q62 := slot_at (t := 62) 18 ha (by kernel_rfl) (by kernel_rfl) (by kernel_rfl) e18
              have p62 := slot_norm q62
              have q65 := slot_at (t := 65) 21 ha (by kernel_rfl) (by kernel_rfl) (by kernel_rfl) e21
              have p65 := slot_norm q65
              have hg := slot_at (t := 58) 14 ha (by kernel_rfl) (by kernel_rfl) (by kernel_rfl) e14
              clear ha hd hst
              exact StepI.pure (v := .bool true) rfl (wanted_at rfl rfl hg) (by go_simp) ⟨rfl, hI⟩
            · intro us au w1 k23 hlo hhi ha hd hst hI
              obtain rfl : k23 = 1 := by omega
              have e22 := hd 22 _ (by kernel_rfl) rfl
              have e14 := hd 14 _ (by kernel_rfl) rfl
              have q66 := slot_at (t := 66) 22 ha (by kernel_rfl) (by kernel_rfl) (by kernel_rfl) e22
              have p66 := slot_norm q66
              have hg := slot_at (t := 58) 14 ha (by kernel_rfl) (by kernel_rfl) (by kernel_rfl) e14
              clear ha hd hst
              exact StepI.pure (v := .bool true) rfl (wanted_at rfl rfl hg) (by go_simp) ⟨rfl, hI⟩
            · intro us au w1 k24 hlo hhi ha hd hst hI
              obtain rfl : k24 = 1 := by omega
              have e23 := hd 23 _ (by kernel_rfl) rfl
              have hg := slot_at (t := 67) 23 ha (by kernel_rfl) (by kernel_rfl) (by kernel_rfl) e23
              exact StepI.skip rfl (unwanted_at rfl rfl hg rfl) ⟨rfl, hI⟩
            · intro us au w1 k25 hlo hhi ha hd hst hI
              obtain rfl : k25 = 1 := by omega
              have e23 := hd 23 _ (by kernel_rfl) rfl
              have hg := slot_at (t := 67) 23 ha (by kernel_rfl) (by kernel_rfl) (by kernel_rfl) e23
              exact StepI.skip rfl (unwanted_at rfl rfl hg rfl) ⟨rfl, hI⟩
            · intro us au w1 k26 hlo hhi ha hd hst hI
              obtain rfl : k26 = 1 := by omega
              have e23 := hd 23 _ (by kernel_rfl) rfl
              have hg := slot_at (t := 67) 23 ha (by kernel_rfl) (by kernel_rfl) (by kernel_rfl) e23
              exact StepI.skip rfl (unwanted_at rfl rfl hg rfl) ⟨rfl, hI⟩
            · intro us au w1 k27 hlo hhi ha hd hst hI
              obtain rfl : k27 = 1 := by omega
              have e23 := hd 23 _ (by kernel_rfl) rfl
              have e26 := hd 26 _ (by kernel_rfl) rfl
              have e14 := hd 14 _ (by kernel_rfl) rfl
              have q67 := slot_at (t := 67) 23 ha (by kernel_rfl) (by kernel_rfl) (by kernel_rfl) e23
              have p67 := slot_norm q67
              have q70 := slot_at (t := 70) 26 ha (by kernel_rfl) (by kernel_rfl) (by kernel_rfl) e26
              have p70 := slot_norm q70
              have hg := slot_at (t := 58) 14 ha (by kernel_rfl) (by kernel_rfl) (by kernel_rfl) e14
              clear ha hd hst
              exact StepI.pure (v := .bool true) rfl (wanted_at rfl rfl hg) (by go_simp) ⟨rfl, hI⟩
            · intro us au w1 k28 hlo hhi ha hd hst hI
              obtain rfl : k28 = 1 := by omega
              have e14 := hd 14 _ (by kernel_rfl) rfl
              have e27 := hd 27 _ (by kernel_rfl) rfl
              have q58 := slot_at (t := 58) 14 ha (by kernel_rfl) (by kernel_rfl) (by kernel_rfl) e14
              have p58 := slot_norm q58
              have q71 := slot_at (t := 71) 27 ha (by kernel_rfl) (by kernel_rfl) (by kernel_rfl) e27
              have p71 := slot_norm q71
              clear ha hd hst
              exact StepI.pure (v := .bool true) rfl rfl (by go_simp) ⟨rfl, hI⟩
            · intro us au w1 k29 hlo hhi ha hd hst hI
              obtain rfl : k29 = 1 := by omega
              have e28 := hd 28 _ (by kernel_rfl) rfl
              have q72 := slot_at (t := 72) 28 ha (by kernel_rfl) (by kernel_rfl) (by kernel_rfl) e28
              have p72 := slot_norm q72
              clear ha hd hst
              exact StepI.pure (v := .bool true) rfl rfl (by go_simp) ⟨rfl, hI⟩
            · intro us au w1 k30 hlo hhi ha hd hst hI
              obtain rfl : k30 = 1 := by omega
              have e29 := hd 29 _ (by kernel_rfl) rfl
              have hg := slot_at (t := 73) 29 ha (by kernel_rfl) (by kernel_rfl) (by kernel_rfl) e29
              clear ha hd hst
              refine StepI.call (f := 13) (args := #[]) rfl (wanted_at rfl rfl hg) (by go_simp) ?_
              refine (awake8_any w1 (HE.out.below (by rw [HOG.out]; exact (HBC.out.trans ((IPr.bel hI).mono (by rw [← HOG.out]; exact HBC.out.size)))))).mono ?_
              rintro e w5 ⟨rfl, hb⟩
              exact ⟨_, rfl, rfl, IPr.mono hI hb⟩
            · intro us au w1 k31 hlo hhi ha hd hst hI
              obtain rfl : k31 = 1 := by omega
              have e29 := hd 29 _ (by kernel_rfl) rfl
              have e30 := hd 30 _ (by kernel_rfl) rfl
              have q73 := slot_at (t := 73) 29 ha (by kernel_rfl) (by kernel_rfl) (by kernel_rfl) e29
              have p73 := slot_norm q73
              have q74 := slot_at (t := 74) 30 ha (by kernel_rfl) (by kernel_rfl) (by kernel_rfl) e30
              have p74 := slot_norm q74
              clear ha hd hst
              exact StepI.pure (v := .bool true) rfl rfl (by go_simp) ⟨rfl, hI⟩
            · intro us au w1 k32 hlo hhi ha hd hst hI
              obtain rfl : k32 = 1 := by omega
              have e31 := hd 31 _ (by kernel_rfl) rfl
              have q75 := slot_at (t := 75) 31 ha (by kernel_rfl) (by kernel_rfl) (by kernel_rfl) e31
              have p75 := slot_norm q75
              clear ha hd hst
              exact StepI.pure (v := .bool true) rfl rfl (by go_simp) ⟨rfl, hI⟩
          case done =>
            intro us w1 hI hd
            have e32 := hd 32 _ (by decide) rfl
            have HW := Lib.hid (HBC.out.trans ((IPr.bel hI).mono (by rw [← HOG.out]; exact HBC.out.size)))
            clear hd hI
            simp only [putAll]
            go_simp
            go_wp2
            first | go_ret | skip
            exact ⟨rfl, by rw [HOG.out]; exact HW.out⟩
end Go.Proofs.YtdlabapfcghfmaaGreatDoor
namespace Go.Proofs.YtdlabapfcghfmaaGreatDoor
open Go.RowKit
set_option linter.unusedVariables false
set_option linter.unusedSimpArgs false

def comR (t : ByteArray) (P : List ByteArray) (a c m : ByteArray) : CommitR := ⟨t.data.toList, P.map fun p => p.data.toList, a.data.toList, c.data.toList, m.data.toList⟩
theorem map_bk (P : List ByteArray) : (P.map fun p => p.data.toList).map bk = P := by
  rw [List.map_map]
  conv => rhs; rw [← List.map_id P]
  exact List.map_congr_left fun p _ => bk_of p
theorem commitL_bk (t : ByteArray) (P : List ByteArray) (a c m : ByteArray) : commitL t P a c m = bytesOf (bk (commitU (comR t P a c m))) := by
  have h : commitL (bk t.data.toList) ((P.map fun p => p.data.toList).map bk) (bk a.data.toList) (bk c.data.toList) (bk m.data.toList) = bytesOf (bk (commitU (comR t P a c m))) := by
    unfold commitL
    rw [headS_bk, parL_bk, tailS_bk, ← bytesOf_app, bk_app, ← bytesOf_app, bk_app]
    rfl
  rw [map_bk, bk_of, bk_of, bk_of, bk_of] at h
  exact h
def tagL8 (o n g m : ByteArray) (ty : Int) : List UInt8 := objectN ++ [32] ++ o.data.toList ++ [10] ++ (typeN ++ [32] ++ (strOfNums (nameL ty)).data.toList ++ [10] ++ (tagN ++ [32] ++ n.data.toList ++ [10] ++ (taggerN ++ [32] ++ g.data.toList ++ [10] ++ ([10] ++ m.data.toList))))
theorem tagS_bk (o n g m : ByteArray) (ty : Int) : tagS o (strOfNums (nameL ty)) n g m = bk (tagL8 o n g m ty) := by
  unfold tagS objectW typeW tagW taggerW nl2W tagL8
  conv => lhs; rw [← bk_of o, ← bk_of (strOfNums (nameL ty)), ← bk_of n, ← bk_of g, ← bk_of m]
  show bk [111, 98, 106, 101, 99, 116, 32] ++ bk _ ++ bk [10, 116, 121, 112, 101, 32] ++ bk _ ++ bk [10, 116, 97, 103, 32] ++ bk _ ++ bk [10, 116, 97, 103, 103, 101, 114, 32] ++ bk _ ++ bk [10, 10] ++ bk _ = _
  rw [bk_app, bk_app, bk_app, bk_app, bk_app, bk_app, bk_app, bk_app, bk_app]
  simp [objectN, typeN, tagN, taggerN]
theorem noLine_map {P : List ByteArray} (h : ∀ s ∈ P, (10 : UInt8) ∉ s.data.toList) : ∀ p ∈ P.map (fun p => p.data.toList), (10 : UInt8) ∉ p := fun p hp => by
  obtain ⟨s, hs, rfl⟩ := List.mem_map.1 hp
  exact h s hs
theorem linesK {kd : Int} {d : ByteArray} {vL : Value} {t : ByteArray} {AA : Option Addr} {NN CC : Nat} {P : List ByteArray} {a c o n : ByteArray} {ty : Int} {g m : ByteArray} {w : World} (hS : StrsAt w AA P) (hN : P.length = NN) (hNb : NN ≤ 1048576) (hz : ∀ s ∈ [t, a, c, o, n, g] ++ P, s.size ≤ 1048576) (W : World) (hW : Below w.heap.size w W) :
    Calls Tryz.prog 20 #[.agg #[.int .i64 kd, .string d, vL, .string t, .slice AA NN CC, .string a, .string c, .string o, .string n, .int .i64 ty, .string g, .string m]] W (LinesP (NoLine ([t, a, c, o, n, g] ++ P)) W) :=
  lines_any kd d vL t AA NN CC P a c o n ty g m W (hS.below hW) hN (by omega) _ rfl (fun s hs => by have := hz s hs; omega)
set_option maxRecDepth 100000 in
theorem backCommit (d : ByteArray) (vL : Value) (t : ByteArray) (AA : Option Addr) (NN CC : Nat) (P : List ByteArray) (a c o n : ByteArray) (ty : Int) (g m : ByteArray) (w : World) (hE : EnvO w) (hS : StrsAt w AA P) (hN : P.length = NN) (hNb : NN ≤ 1048576)
    (hz : ∀ s ∈ [t, a, c, o, n, g] ++ P, s.size ≤ 1048576) (hsz : (commitL t P a c m).length ≤ 8796093022000) :
    Calls Tryz.prog 5 #[.agg #[.int .i64 1, .string d, vL, .string t, .slice AA NN CC, .string a, .string c, .string o, .string n, .int .i64 ty, .string g, .string m]] w fun e w' => e = .returned (.bool true) ∧ Below w.heap.size w w' := by
  have hl : (commitU (comR t P a c m)).length = (commitL t P a c m).length := by rw [commitL_bk, bytesOf_len, bk_size]
  refine back_walk 1 d vL t (.slice AA NN CC) a c o n ty g m w hE _ (commitL t P a c m) rfl (by omega) (commitF (commitU (comR t P a c m))).isSome (NoLine ([t, a, c, o, n, g] ++ P)) (by omega) (by omega) (fun W hW => ?_) (fun W A hE hI hW => ?_) (fun _ W hW => linesK hS hN hNb hz W hW)
  · refine (makeCommit_any d vL t AA NN CC a c o n ty g m W).mono ?_
    rintro e w' ⟨rfl, hb⟩
    exact ⟨hb, _, _, 17, _, rfl, ⟨fun W => by kernel_rfl, fun W => enters_of Tryz.func17 (by kernel_rfl) rfl _ _⟩, commitBytes_any t AA NN CC P a c m w' ((hS.below hW).below hb) hN (by omega) (by omega)⟩
  · refine (parseCommit_any A _ _ (commitU (comR t P a c m)) W hE (by rw [← commitL_bk]; exact hI) hl (Nat.le_refl _) (by omega) (by omega)).mono ?_
    rintro e w1 ⟨hb, ⟨hno, rfl⟩ | ⟨r, A2, hr, rfl, ho⟩⟩
    · exact ⟨hb, .inl ⟨by rw [hno]; rfl, rfl⟩⟩
    · have hback := commit_back hr
      rw [← commitL_bk] at hback
      refine ⟨hb, .inr ⟨by rw [hr]; rfl, _, _, 17, .agg #[.string (bk r.t), .slice A2 r.P.length r.P.length, .string (bk r.a), .string (bk r.c), .string (bk r.m)], rfl, ⟨fun W => by kernel_rfl, fun W => enters_of Tryz.func17 (by kernel_rfl) rfl _ _⟩, fun w2 h2 => ?_, fun hnl _ w2 h2 => ?_⟩⟩
      · rw [← hback]
        exact commitBytes_any _ A2 _ _ (r.P.map bk) _ _ _ w2 (ho.lowB h2).strsAt (by simp) (by have := commit_num hr; omega) (by rw [hback]; omega)
      · have hR := commit_fwd (comR t P a c m) r hr (hnl t (by simp)) (noLine_map fun s hs => hnl s (List.mem_append_right _ hs)) (hnl a (by simp)) (hnl c (by simp))
        subst hR
        have hs2 := (ho.lowB h2).strsAt
        unfold comR at hs2 ⊢
        simp only [List.length_map] at hs2 ⊢
        rw [map_bk] at hs2
        rw [bk_of, bk_of, bk_of, bk_of, hN]
        exact sameCommit_any A2 AA NN CC _ P d vL t a c o n ty g m w2 hs2 (hS.below ((hW.trans (hb.mono hW.size)).trans (h2.mono (Nat.le_trans hW.size hb.size)))) hN (by omega) (fun p hp => by have := hz p (List.mem_append_right _ hp); omega)
set_option maxRecDepth 100000 in
theorem backTag (d : ByteArray) (vL : Value) (t : ByteArray) (AA : Option Addr) (NN CC : Nat) (P : List ByteArray) (a c o n : ByteArray) (ty : Int) (g m : ByteArray) (w : World) (hE : EnvO w) (hS : StrsAt w AA P) (hN : P.length = NN) (hNb : NN ≤ 1048576)
    (hz : ∀ s ∈ [t, a, c, o, n, g] ++ P, s.size ≤ 1048576) (hsz : (tagS o (strOfNums (nameL ty)) n g m).size ≤ 8796093022000) :
    Calls Tryz.prog 5 #[.agg #[.int .i64 4, .string d, vL, .string t, .slice AA NN CC, .string a, .string c, .string o, .string n, .int .i64 ty, .string g, .string m]] w fun e w' => e = .returned (.bool true) ∧ Below w.heap.size w w' := by
  have hl : (tagL8 o n g m ty).length = (bytesOf (tagS o (strOfNums (nameL ty)) n g m)).length := by rw [tagS_bk, bytesOf_len, bk_size]
  have hl2 : (bytesOf (tagS o (strOfNums (nameL ty)) n g m)).length = (tagS o (strOfNums (nameL ty)) n g m).size := bytesOf_len _
  refine back_walk 4 d vL t (.slice AA NN CC) a c o n ty g m w hE _ (bytesOf (tagS o (strOfNums (nameL ty)) n g m)) rfl (by omega) (tagF (tagL8 o n g m ty)).isSome (NoLine ([t, a, c, o, n, g] ++ P)) (by omega) (by omega) (fun W hW => ?_) (fun W A hE hI hW => ?_) (fun _ W hW => linesK hS hN hNb hz W hW)
  · refine (makeTag_any d vL t (.slice AA NN CC) a c o n ty g m W).mono ?_
    rintro e w' ⟨rfl, hb⟩
    exact ⟨hb, _, _, 170, _, rfl, ⟨fun W => by kernel_rfl, fun W => enters_of Tryz.func170 (by kernel_rfl) rfl _ _⟩, tagBytes_any o ty n g m w' (by omega)⟩
  · refine (parseTag_any A _ _ (tagL8 o n g m ty) W hE (by rw [← tagS_bk]; exact hI) hl (Nat.le_refl _) (by omega) (by omega)).mono ?_
    rintro e w1 ⟨hb, ⟨hno, rfl⟩ | ⟨r, hr, rfl⟩⟩
    · exact ⟨hb, .inl ⟨by rw [hno]; rfl, rfl⟩⟩
    · have hback := tag_back hr
      rw [← tagS_bk] at hback
      refine ⟨hb, .inr ⟨by rw [hr]; rfl, _, _, 170, .agg #[.string (bk r.o), .int .i64 (r.k : Int), .string (bk r.n), .string (bk r.g), .string (bk r.m)], rfl, ⟨fun W => by kernel_rfl, fun W => enters_of Tryz.func170 (by kernel_rfl) rfl _ _⟩, fun w2 h2 => ?_, fun hnl _ w2 h2 => ?_⟩⟩
      · rw [← hback]
        exact tagBytes_any _ _ _ _ _ w2 (by rw [hback]; omega)
      · obtain ⟨e1, e2, e3, e4, e5⟩ := tag_fwd _ _ _ _ ty r hr (hnl o (by simp)) (hnl n (by simp)) (hnl g (by simp))
        rw [e1, e2, e3, e4, e5, bk_of, bk_of, bk_of, bk_of]
        exact sameTag_any d vL t (.slice AA NN CC) a c o n ty g m w2
set_option maxRecDepth 100000 in
theorem backBlob (d : ByteArray) (vL : Value) (t : ByteArray) (AA : Option Addr) (NN CC : Nat) (P : List ByteArray) (a c o n : ByteArray) (ty : Int) (g m : ByteArray) (w : World) (hE : EnvO w) (hS : StrsAt w AA P) (hN : P.length = NN) (hNb : NN ≤ 1048576)
    (hz : ∀ s ∈ [t, a, c, o, n, g] ++ P, s.size ≤ 1048576) (hd : d.size ≤ 1048576) :
    Calls Tryz.prog 5 #[.agg #[.int .i64 3, .string d, vL, .string t, .slice AA NN CC, .string a, .string c, .string o, .string n, .int .i64 ty, .string g, .string m]] w fun e w' => e = .returned (.bool true) ∧ Below w.heap.size w w' := by
  have hl : d.data.toList.length = (bytesOf d).length := by rw [bytesOf_len]; exact (Lib.size_eq d).symm
  have hl2 : (bytesOf d).length = d.size := bytesOf_len _
  refine back_walk 3 d vL t (.slice AA NN CC) a c o n ty g m w hE _ (bytesOf d) rfl (by omega) true (NoLine ([t, a, c, o, n, g] ++ P)) (by omega) (by omega) (fun W hW => ?_) (fun W A hE hI hW => ?_) (fun _ W hW => linesK hS hN hNb hz W hW)
  · refine (makeBlob_any d vL t (.slice AA NN CC) a c o n ty g m W (by omega)).mono ?_
    rintro e w' ⟨A, cc, rfl, ho, hA, hb⟩
    exact ⟨hb, _, _, 166, _, rfl, ⟨fun W => by kernel_rfl, fun W => enters_of Tryz.func166 (by kernel_rfl) rfl _ _⟩, blobBytes_any A d.size cc _ w' ho.ints hl2 (by omega) hA⟩
  · have hAn : A = none → (bytesOf d).length = 0 := fun h => by
      subst h
      by_cases h0 : 0 < (bytesOf d).length
      · obtain ⟨_, _, h, _⟩ := hI h0; cases h
      · omega
    refine (parseBlob_any A _ _ d.data.toList W hE (by rw [bk_of]; exact hI) hl (Nat.le_refl _) (by omega) (by omega) hAn).mono ?_
    rintro e w1 ⟨hb, A2, rfl, ho⟩
    rw [bk_of] at ho
    refine ⟨hb, .inr ⟨rfl, _, _, 166, .agg #[.slice A2 d.data.toList.length d.data.toList.length], rfl, ⟨fun W => by kernel_rfl, fun W => enters_of Tryz.func166 (by kernel_rfl) rfl _ _⟩, fun w2 h2 => ?_, fun hnl _ w2 h2 => ?_⟩⟩
    · refine blobBytes_any A2 _ _ _ w2 (ho.lowB h2).ints hl.symm (by omega) (fun hA => ?_)
      subst hA
      rcases ho.2 with ⟨_, h⟩ | ⟨g, off, cap, cur, hv, _⟩
      · exact h
      · injection hv with h1; cases h1
    · exact sameBlob_any A2 _ _ d vL t (.slice AA NN CC) a c o n ty g m w2 (ho.lowB h2).ints hl.symm
set_option maxRecDepth 100000 in
theorem backTree (d : ByteArray) (AA : Option Addr) (NN CC : Nat) (L : List Ent) (t : ByteArray) (vP : Value) (a c o n : ByteArray) (ty : Int) (g m : ByteArray) (w : World) (hE : EnvO w) (hEA : EntsAt w AA L) (hN : L.length = NN) (hNb : NN ≤ 1048576) (hid : ∀ x ∈ L, x.i.size ≤ 140737488351232) (hsz : (treeL L).length ≤ 8796093022000) (hB : Bytes (treeL L)) :
    Calls Tryz.prog 5 #[.agg #[.int .i64 2, .string d, .slice AA NN CC, .string t, vP, .string a, .string c, .string o, .string n, .int .i64 ty, .string g, .string m]] w fun e w' => e = .returned (.bool true) ∧ Below w.heap.size w w' := by
  have hbk : bytesOf (bk (strOfNums (treeL L)).data.toList) = treeL L := by rw [bk_of]; exact bytesOf_str _ hB
  have hl : (strOfNums (treeL L)).data.toList.length = (treeL L).length := by rw [← Lib.size_eq, strOfNums_size]
  refine back_walk 2 d (.slice AA NN CC) t vP a c o n ty g m w hE _ (treeL L) rfl (by omega) (treeF (strOfNums (treeL L)).data.toList).isSome True (by omega) (by omega) (fun W hW => ?_) (fun W A hE hI hW => ?_) (fun h => absurd rfl h)
  · refine (makeTree_any d AA NN CC t vP a c o n ty g m W).mono ?_
    rintro e w' ⟨rfl, hb⟩
    exact ⟨hb, _, _, 11, _, rfl, ⟨fun W => by kernel_rfl, fun W => enters_of Tryz.func11 (by kernel_rfl) rfl _ _⟩, treeBytes_any AA NN CC L w' ((hEA.below hW).below hb) hN (by omega) hid (by omega)⟩
  · refine (parseTree_any A _ _ (strOfNums (treeL L)).data.toList W hE (by rw [hbk]; exact hI) hl (Nat.le_refl _) (by omega) (by omega)).mono ?_
    rintro e w1 ⟨hb, ⟨hno, rfl⟩ | ⟨r, A2, hr, rfl, ho⟩⟩
    · exact ⟨hb, .inl ⟨by rw [hno]; rfl, rfl⟩⟩
    · have hback := tree_back hr
      rw [hbk] at hback
      have hn := treeU_num _ _ _ _ hr
      simp only [List.length_nil, Nat.zero_add] at hn
      have hi2 := treeU_id _ _ _ _ hr (by simp)
      refine ⟨hb, .inr ⟨by rw [hr]; rfl, _, _, 11, .agg #[.slice A2 r.length r.length], rfl, ⟨fun W => by kernel_rfl, fun W => enters_of Tryz.func11 (by kernel_rfl) rfl _ _⟩, fun w2 h2 => ?_, fun _ h => absurd rfl h⟩⟩
      rw [← hback]
      exact treeBytes_any A2 _ _ r w2 (ho.lowB h2).entsAt rfl (by omega) (fun x hx => Nat.le_trans (hi2 x hx) (by decide)) (by rw [hback]; omega)
set_option maxRecDepth 100000 in
set_option maxHeartbeats 4000000 in
theorem backNone (kd : Int) (d : ByteArray) (vL : Value) (t : ByteArray) (vP : Value) (a c o n : ByteArray) (ty : Int) (g m : ByteArray) (w : World) (hE : EnvO w) (hk : kd < 1 ∨ 4 < kd) :
    Calls Tryz.prog 5 #[.agg #[.int .i64 kd, .string d, vL, .string t, vP, .string a, .string c, .string o, .string n, .int .i64 ty, .string g, .string m]] w fun e w' => e = .returned (.bool true) ∧ Below w.heap.size w w' := by
  have hl0 : Below w.heap.size w (w.alloc (.cells #[.int .i64 kd, .string d, vL, .string t, vP, .string a, .string c, .string o, .string n, .int .i64 ty, .string g, .string m] 50)) := (Below.refl _ _).alloc (Nat.le_refl _) _
  have ho0 := O8At.new w kd d vL t vP a c o n ty g m
  have HE0 := Lib.hid (hE.below hl0)
  go_enter Tryz.func5, Tryz.ntmps5
  go_upto_region 1 with (fail)
  generalize w.alloc (.cells #[.int .i64 kd, .string d, vL, .string t, vP, .string a, .string c, .string o, .string n, .int .i64 ty, .string g, .string m] 50) = w0 at *
  have k0 := ho0.c0
  have HL0 := Lib.hid hl0
  clear ho0 hl0 hE
  by_cases h1 : kd < 1
  · have d1 : decide (kd < 1) = true := decide_eq_true h1
    clear hk
    go_wp2_with fail
    refine (awake8_any w0 HE0.out).mono ?_
    rintro e w1 ⟨rfl, hb⟩
    have HB := Lib.hid (HL0.out.trans (hb.mono HL0.out.size))
    clear hb
    go_wp2
    go_ret
    exact ⟨rfl, HB.out⟩
  · have h4 : 4 < kd := by omega
    have d1 : decide (kd < 1) = false := decide_eq_false h1
    have d2 : decide (4 < kd) = true := decide_eq_true h4
    clear hk
    go_wp2_with fail
    refine (awake8_any w0 HE0.out).mono ?_
    rintro e w1 ⟨rfl, hb⟩
    have HB := Lib.hid (HL0.out.trans (hb.mono HL0.out.size))
    clear hb
    go_wp2
    go_ret
    exact ⟨rfl, HB.out⟩
end Go.Proofs.YtdlabapfcghfmaaGreatDoor
