/- object.Parse at each kind (printed by genobl2.py). -/
import Derived.Test.YtdlabapfcghfmaaGreatDoorRgD
import Derived.Test.YtdlabapfcghfmaaGreatDoorRgA
import Derived.Test.YtdlabapfcghfmaaGreatDoorOid
import Derived.Test.YtdlabapfcghfmaaGreatDoorRgB
import Derived.Test.YtdlabapfcghfmaaGreatDoorObU
namespace Go.Proofs.YtdlabapfcghfmaaGreatDoor
open Go.RowKit
set_option linter.unusedVariables false
set_option linter.unusedSimpArgs false

def PTree (l : List UInt8) (w : World) (e : Ending) (w' : World) : Prop :=
  Below w.heap.size w w' ∧ ((treeF l = none ∧ e = .returned (.tuple #[.nilIface, .int .i64 3])) ∨
    ∃ L A, treeF l = some L ∧ e = .returned (.tuple #[.iface 36 (.agg #[.slice A L.length L.length]), .int .i64 0]) ∧ OwnS w' w.heap.size 28 3 (.slice A L.length L.length) L.length (entVs L))
def PCommit (l : List UInt8) (w : World) (e : Ending) (w' : World) : Prop :=
  Below w.heap.size w w' ∧ ((commitF l = none ∧ e = .returned (.tuple #[.nilIface, .int .i64 3])) ∨
    ∃ r A, commitF l = some r ∧ e = .returned (.tuple #[.iface 44 (.agg #[.string (bk r.t), .slice A r.P.length r.P.length, .string (bk r.a), .string (bk r.c), .string (bk r.m)]), .int .i64 0]) ∧ OwnS w' w.heap.size 9 1 (.slice A r.P.length r.P.length) r.P.length (strVs r.P))
def PTag (l : List UInt8) (w : World) (e : Ending) (w' : World) : Prop :=
  Below w.heap.size w w' ∧ ((tagF l = none ∧ e = .returned (.tuple #[.nilIface, .int .i64 3])) ∨
    ∃ r, tagF l = some r ∧ e = .returned (.tuple #[.iface 91 (.agg #[.string (bk r.o), .int .i64 (r.k : Int), .string (bk r.n), .string (bk r.g), .string (bk r.m)]), .int .i64 0]))
def PBlob (l : List UInt8) (w : World) (e : Ending) (w' : World) : Prop :=
  Below w.heap.size w w' ∧ ∃ A, e = .returned (.tuple #[.iface 71 (.agg #[.slice A l.length l.length]), .int .i64 0]) ∧ OwnS w' w.heap.size 5 1 (.slice A l.length l.length) l.length ((bytesOf (bk l)).map (Value.int .u8))
set_option maxRecDepth 100000 in
set_option maxHeartbeats 1000000 in
theorem parseTree_any (A : Option Addr) (n c : Nat) (l : List UInt8) (w : World) (hE : EnvO w) (hI : Ints .u8 w A (bytesOf (bk l))) (hn : l.length = n) (hnc : n ≤ c) (hcm : c ≤ 9223372036854775807) (hs : n ≤ 8796093022000) :
    Calls Tryz.prog 10 #[.int .i64 2, .slice A n c] w (PTree l w) := by
  have HC := Lib.hid (tree_any A n c l w hE hI hn hnc hcm hs)
  unfold TreePost at HC
  clear hE hI hn hs
  go_enter Tryz.func10, Tryz.ntmps10
  go_wp2_with fail
  refine HC.out.mono ?_
  rintro e w1 ⟨hb, ⟨hno, rfl⟩ | ⟨L, A2, hyes, rfl, ho⟩⟩
  · have HB := Lib.hid hb
    have HNO := Lib.hid hno
    clear hb hno
    go_wp2
    go_ret2
    exact ⟨HB.out, .inl ⟨HNO.out, rfl⟩⟩
  · have HB := Lib.hid hb
    have HY := Lib.hid hyes
    have HO := Lib.hid ho
    clear hb hyes ho
    go_wp2
    go_ret2
    exact ⟨HB.out, .inr ⟨L, A2, HY.out, rfl, HO.out⟩⟩
set_option maxRecDepth 100000 in
set_option maxHeartbeats 1000000 in
theorem parseCommit_any (A : Option Addr) (n c : Nat) (l : List UInt8) (w : World) (hE : EnvO w) (hI : Ints .u8 w A (bytesOf (bk l))) (hn : l.length = n) (hnc : n ≤ c) (hcm : c ≤ 9223372036854775807) (hs : n ≤ 8796093022000) :
    Calls Tryz.prog 10 #[.int .i64 1, .slice A n c] w (PCommit l w) := by
  have HC := Lib.hid (commit_any (bk l) w hE (by rw [bk_size, hn]; exact hs))
  unfold CommitPost at HC
  rw [bk_list] at HC
  have hcv := run_strU A n c l w hI hn
  clear hE hI hn hs
  go_enter Tryz.func10, Tryz.ntmps10
  go_wp2_with fail
  refine HC.out.mono ?_
  rintro e w1 ⟨hb, ⟨hno, rfl⟩ | ⟨r, A2, hyes, rfl, ho⟩⟩
  · have HB := Lib.hid hb
    have HNO := Lib.hid hno
    clear hb hno
    go_wp2
    go_ret2
    exact ⟨HB.out, .inl ⟨HNO.out, rfl⟩⟩
  · have HB := Lib.hid hb
    have HY := Lib.hid hyes
    have HO := Lib.hid ho
    clear hb hyes ho
    go_wp2
    go_ret2
    exact ⟨HB.out, .inr ⟨r, A2, HY.out, rfl, HO.out⟩⟩
set_option maxRecDepth 100000 in
set_option maxHeartbeats 1000000 in
theorem parseTag_any (A : Option Addr) (n c : Nat) (l : List UInt8) (w : World) (hE : EnvO w) (hI : Ints .u8 w A (bytesOf (bk l))) (hn : l.length = n) (hnc : n ≤ c) (hcm : c ≤ 9223372036854775807) (hs : n ≤ 8796093022000) :
    Calls Tryz.prog 10 #[.int .i64 4, .slice A n c] w (PTag l w) := by
  have HC := Lib.hid (tag_any (bk l) w hE (by rw [bk_size, hn]; exact hs))
  unfold TagPost at HC
  rw [bk_list] at HC
  have hcv := run_strU A n c l w hI hn
  clear hE hI hn hs
  go_enter Tryz.func10, Tryz.ntmps10
  go_wp2_with fail
  refine HC.out.mono ?_
  rintro e w1 ⟨hb, ⟨hno, rfl⟩ | ⟨r, hyes, rfl⟩⟩
  · have HB := Lib.hid hb
    have HNO := Lib.hid hno
    clear hb hno
    go_wp2
    go_ret2
    exact ⟨HB.out, .inl ⟨HNO.out, rfl⟩⟩
  · have HB := Lib.hid hb
    have HY := Lib.hid hyes
    clear hb hyes
    go_wp2
    go_ret2
    exact ⟨HB.out, .inr ⟨r, HY.out, rfl⟩⟩
set_option maxRecDepth 100000 in
set_option maxHeartbeats 1000000 in
theorem parseBlob_any (A : Option Addr) (n c : Nat) (l : List UInt8) (w : World) (hE : EnvO w) (hI : Ints .u8 w A (bytesOf (bk l))) (hn : l.length = n) (hnc : n ≤ c) (hcm : c ≤ 9223372036854775807) (hs : n ≤ 8796093022000) (hA : A = none → n = 0) :
    Calls Tryz.prog 10 #[.int .i64 3, .slice A n c] w (PBlob l w) := by
  have HC := Lib.hid (clone_any A n c (bytesOf (bk l)) w hI (by rw [bytesOf_len, bk_size]; exact hn) (by omega) hA)
  have HN := Lib.hid hn
  clear hE hI hn hs
  go_enter Tryz.func10, Tryz.ntmps10
  go_wp2_with fail
  refine HC.out.mono ?_
  rintro e w1 ⟨A2, c2, rfl, ho, hb⟩
  have hcp := ho.cap
  have hcm2 := ho.capm
  have HO := Lib.hid ho
  have HB := Lib.hid hb
  clear ho hb
  go_wp2_with (go_at_call 31; refine (clip_any _ _ _ _ hcp hcm2).mono ?_; rintro e w9 ⟨rfl, rfl⟩)
  go_ret2
  exact ⟨HB.out, A2, by rw [HN.out]; rfl, by rw [HN.out]; exact HO.out.clip⟩
set_option maxRecDepth 100000 in
theorem parseNone_any (kd : Int) (v : Value) (w : World) (hk : kd < 1 ∨ 4 < kd) : Calls Tryz.prog 10 #[.int .i64 kd, v] w fun e w' => e = .returned (.tuple #[.nilIface, .int .i64 1]) ∧ w' = w := by
  have e1 : (kd == 3) = false := by rw [beq_eq_false_iff_ne]; omega
  have e2 : (kd == 2) = false := by rw [beq_eq_false_iff_ne]; omega
  have e3 : (kd == 1) = false := by rw [beq_eq_false_iff_ne]; omega
  have e4 : (kd == 4) = false := by rw [beq_eq_false_iff_ne]; omega
  clear hk
  go_enter Tryz.func10, Tryz.ntmps10
  go_wp2
  go_ret2
  exact ⟨rfl, rfl⟩
end Go.Proofs.YtdlabapfcghfmaaGreatDoor
namespace Go.Proofs.YtdlabapfcghfmaaGreatDoor
open Go.RowKit
set_option linter.unusedVariables false
set_option linter.unusedSimpArgs false

theorem fieldL_eq {nm l x r : List UInt8} (h : fieldL nm l = some (x, r)) : l = nm ++ [32] ++ x ++ [10] ++ r := by
  unfold fieldL at h
  split at h
  · next hp =>
    have ht : Lib.trimPrefix l (nm ++ [32]) = l.drop (nm.length + 1) := by unfold Lib.trimPrefix; rw [if_pos hp]; simp
    have hl : l = (nm ++ [32]) ++ l.drop (nm.length + 1) := by
      have h1 := (hasPrefix_iff _ _).1 hp
      conv => lhs; rw [← List.take_append_drop (nm ++ [32]).length l]
      rw [h1]
      simp
    rw [ht] at h
    rcases idx_cases 10 (l.drop (nm.length + 1)) with ⟨hi, _⟩ | ⟨i, hi, hil, hi3, _⟩
    · rw [hi] at h; simp at h
    · rw [hi, if_neg (by omega)] at h
      simp only [Int.toNat_natCast] at h
      injection h with h
      injection h with h1 h2
      have hr : l.drop (nm.length + 1) = x ++ [10] ++ r := by
        conv => lhs; rw [← List.take_append_drop i (l.drop (nm.length + 1))]
        rw [h1, List.drop_eq_getElem_cons hil, (List.getElem?_eq_some_iff.1 hi3).2, h2]
        simp
      rw [hl, hr]
      simp only [List.append_assoc]
  · exact absurd h (by simp)
def parU (p : List UInt8) : List UInt8 := parentN ++ [32] ++ p ++ [10]
def commitU (r : CommitR) : List UInt8 := treeN ++ [32] ++ r.t ++ [10] ++ r.P.flatMap parU ++ (authorN ++ [32] ++ r.a ++ [10] ++ (committerN ++ [32] ++ r.c ++ [10] ++ ([10] ++ r.m)))
theorem parsF_eq : ∀ (f : Nat) (l : List UInt8) (acc P : List (List UInt8)) (r : List UInt8), parsF f l acc = some (P, r) → ∃ Q, P = acc ++ Q ∧ l = Q.flatMap parU ++ r
  | 0, _, _, _, _, h => by simp [parsF] at h
  | f + 1, l, acc, P, r, h => by
    rw [parsF] at h
    cases hf : fieldL parentN l with
    | none => rw [hf] at h; injection h with h; injection h with h1 h2; exact ⟨[], by rw [h1]; simp, by rw [h2]; simp⟩
    | some q =>
      obtain ⟨p, r'⟩ := q
      rw [hf] at h
      simp only at h
      split at h
      · exact absurd h (by simp)
      · obtain ⟨Q, hQ, hl⟩ := parsF_eq f r' (acc ++ [p]) P r h
        refine ⟨p :: Q, by rw [hQ]; simp, ?_⟩
        rw [fieldL_eq hf, hl]
        simp [parU]
theorem msgF_eq {l m : List UInt8} (h : msgF l = some m) : l = [10] ++ m := by
  unfold msgF at h
  split at h
  · exact absurd h (by simp)
  · split at h
    · next hc => injection h with h; subst h; rw [hc.1]; rfl
    · exact absurd h (by simp)
theorem commit_backU {l : List UInt8} {r : CommitR} (h : commitF l = some r) : l = commitU r := by
  unfold commitF at h
  cases h0 : fieldL treeN l with
  | none => rw [h0] at h; simp at h
  | some q0 =>
    obtain ⟨t, l1⟩ := q0
    simp only [h0] at h
    split at h
    · exact absurd h (by simp)
    · cases h1 : parsF (l1.length + 1) l1 [] with
      | none => rw [h1] at h; simp at h
      | some q1 =>
        obtain ⟨P, l2⟩ := q1
        simp only [h1] at h
        cases h2 : fieldL authorN l2 with
        | none => rw [h2] at h; simp at h
        | some q2 =>
          obtain ⟨a, l3⟩ := q2
          simp only [h2] at h
          split at h
          · exact absurd h (by simp)
          · cases h3 : fieldL committerN l3 with
            | none => rw [h3] at h; simp at h
            | some q3 =>
              obtain ⟨c, l4⟩ := q3
              simp only [h3] at h
              split at h
              · exact absurd h (by simp)
              · cases h4 : msgF l4 with
                | none => rw [h4] at h; simp at h
                | some m =>
                  simp only [h4] at h
                  injection h with h
                  subst h
                  obtain ⟨Q, hQ, hl1⟩ := parsF_eq _ _ _ _ _ h1
                  rw [List.nil_append] at hQ
                  subst hQ
                  unfold commitU
                  simp only
                  rw [fieldL_eq h0, hl1, fieldL_eq h2, fieldL_eq h3, msgF_eq h4]
                  simp only [List.append_assoc]
def tagU (r : TagR) : List UInt8 := objectN ++ [32] ++ r.o ++ [10] ++ (typeN ++ [32] ++ (strOfNums (nameL (r.k : Int))).data.toList ++ [10] ++ (tagN ++ [32] ++ r.n ++ [10] ++ (taggerN ++ [32] ++ r.g ++ [10] ++ ([10] ++ r.m))))
theorem isName_eq {s : ByteArray} {k : Nat} (h : isName s k = true) : strOfNums (nameL (k : Int)) = s := by
  unfold isName at h
  rw [beq_iff_eq, Lib.toList_data, Lib.toList_data] at h
  rw [← bk_of (strOfNums _), h, bk_of]
theorem kindN_name {s : ByteArray} (h : ¬ kindN s = 0) : strOfNums (nameL ((kindN s : Nat) : Int)) = s := by
  unfold kindN at h ⊢
  split
  · next h1 => exact isName_eq h1
  · next h1 =>
    rw [if_neg h1] at h
    split
    · next h2 => exact isName_eq h2
    · next h2 =>
      rw [if_neg h2] at h
      split
      · next h3 => exact isName_eq h3
      · next h3 =>
        rw [if_neg h3] at h
        split
        · next h4 => exact isName_eq h4
        · next h4 => rw [if_neg h4] at h; exact absurd rfl h
theorem tag_backU {l : List UInt8} {r : TagR} (h : tagF l = some r) : l = tagU r := by
  unfold tagF at h
  cases h0 : fieldL objectN l with
  | none => rw [h0] at h; simp at h
  | some q0 =>
    obtain ⟨o, l1⟩ := q0
    simp only [h0] at h
    split at h
    · exact absurd h (by simp)
    · cases h1 : fieldL typeN l1 with
      | none => rw [h1] at h; simp at h
      | some q1 =>
        obtain ⟨k, l2⟩ := q1
        simp only [h1] at h
        split at h
        · exact absurd h (by simp)
        · next hk =>
          cases h2 : fieldL tagN l2 with
          | none => rw [h2] at h; simp at h
          | some q2 =>
            obtain ⟨n, l3⟩ := q2
            simp only [h2] at h
            split at h
            · exact absurd h (by simp)
            · cases h3 : fieldL taggerN l3 with
              | none => rw [h3] at h; simp at h
              | some q3 =>
                obtain ⟨g, l4⟩ := q3
                simp only [h3] at h
                split at h
                · exact absurd h (by simp)
                · cases h4 : msgF l4 with
                  | none => rw [h4] at h; simp at h
                  | some m =>
                    simp only [h4] at h
                    injection h with h
                    subst h
                    unfold tagU
                    simp only
                    rw [kindN_name hk, bk_list, fieldL_eq h0, fieldL_eq h1, fieldL_eq h2, fieldL_eq h3, msgF_eq h4]
/-- An entry's bytes. -/
theorem ent_backU {l r : List UInt8} {x : Ent} (h : entU l = some (x, r)) : bytesOf (bk l) = entL x ++ bytesOf (bk r) := by
  unfold entU at h
  rcases idx_cases 32 l with ⟨hi, _⟩ | ⟨i, hi, hil, hi3, _⟩
  · rw [hi] at h; simp at h
  · rw [hi, if_neg (by omega)] at h
    simp only [Int.toNat_natCast] at h
    split at h
    · exact absurd h (by simp)
    · rcases idx_cases 0 (l.drop (i + 1)) with ⟨hj, _⟩ | ⟨j, hj, hjl, hj3, _⟩
      · rw [hj] at h; simp at h
      · rw [hj, if_neg (by omega)] at h
        simp only [Int.toNat_natCast] at h
        split at h
        · exact absurd h (by simp)
        · next hq =>
          split at h
          · exact absurd h (by simp)
          · injection h with h
            injection h with h1 h2
            generalize hr : l.drop (i + 1) = R at *
            generalize hqq : R.drop (j + 1) = q at *
            have hl1 : l = l.take i ++ [32] ++ R := by
              conv => lhs; rw [← List.take_append_drop i l]
              rw [List.drop_eq_getElem_cons hil, (List.getElem?_eq_some_iff.1 hi3).2, hr]
              simp
            have hl2 : R = R.take j ++ [0] ++ q := by
              conv => lhs; rw [← List.take_append_drop j R]
              rw [List.drop_eq_getElem_cons hjl, (List.getElem?_eq_some_iff.1 hj3).2, hqq]
              simp
            have hl3 : q = q.take 20 ++ r := by
              conv => lhs; rw [← List.take_append_drop 20 q]
              rw [h2]
            subst h1
            have hid : rawL (hexS (q.take 20)) = bytesOf (bk (q.take 20)) := by
              have hb := bytesOf_ok (bk (q.take 20))
              have hlen : (bytesOf (bk (q.take 20))).length = 20 := by
                rw [bytesOf_len, bk_size, List.length_take]
                have : ¬ q.length < 20 := fun h => hq (.inr h)
                omega
              unfold rawL hexS
              rw [bytesOf_str _ (hexL_ok _ hb)]
              obtain ⟨u1, u2⟩ := unhex_hex _ hb
              unfold hashB
              rw [u1, u2, hlen]
              rfl
            unfold entL entS
            simp only
            rw [hid, ← bytesOf_app, ← bytesOf_app]
            congr 1
            show bk l = bk (l.take i) ++ bk [32] ++ bk (R.take j) ++ bk [0] ++ bk (q.take 20) ++ bk r
            rw [bk_app, bk_app, bk_app, bk_app, bk_app]
            congr 1
            conv => lhs; rw [hl1, hl2, hl3]
            simp only [List.append_assoc]
theorem treeU_back : ∀ (f : Nat) (l : List UInt8) (acc L : List Ent), treeU f l acc = some L → treeL L = treeL acc ++ bytesOf (bk l)
  | 0, _, _, _, h => by simp [treeU] at h
  | f + 1, l, acc, L, h => by
    rw [treeU] at h
    split at h
    · next hl =>
      injection h with h
      subst h; subst hl
      have e : bytesOf (bk []) = [] := rfl
      rw [e, List.append_nil]
    · cases hx : entU l with
      | none => rw [hx] at h; simp at h
      | some q =>
        obtain ⟨x, r⟩ := q
        rw [hx] at h
        simp only at h
        split at h
        · exact absurd h (by simp)
        · have ih := treeU_back f r (acc ++ [x]) L h
          rw [ih, ent_backU hx]
          unfold treeL
          rw [List.flatMap_append]
          simp
theorem tree_back {l : List UInt8} {L : List Ent} (h : treeF l = some L) : treeL L = bytesOf (bk l) := by
  have := treeU_back _ _ _ _ h
  simpa [treeL] using this
/-- The bridge to what the printing tells. -/
theorem headS_bk (t : List UInt8) : headS (bk t) = bk (treeN ++ [32] ++ t ++ [10]) := by
  unfold headS treeW nlW
  show bk [116, 114, 101, 101, 32] ++ bk t ++ bk [10] = _
  rw [bk_app, bk_app]; rfl
theorem parS_bk (p : List UInt8) : parS (bk p) = bk (parU p) := by
  unfold parS parentW nlW parU
  show bk [112, 97, 114, 101, 110, 116, 32] ++ bk p ++ bk [10] = _
  rw [bk_app, bk_app]; rfl
theorem tailS_bk (a c m : List UInt8) : tailS (bk a) (bk c) (bk m) = bk (authorN ++ [32] ++ a ++ [10] ++ (committerN ++ [32] ++ c ++ [10] ++ ([10] ++ m))) := by
  unfold tailS authorW committerW nl2W
  show bk [97, 117, 116, 104, 111, 114, 32] ++ bk a ++ bk [10, 99, 111, 109, 109, 105, 116, 116, 101, 114, 32] ++ bk c ++ bk [10, 10] ++ bk m = _
  rw [bk_app, bk_app, bk_app, bk_app, bk_app]
  congr 1
  simp [authorN, committerN]
theorem parL_bk (P : List (List UInt8)) : parL (P.map bk) = bytesOf (bk (P.flatMap parU)) := by
  unfold parL
  induction P with
  | nil => rfl
  | cons p P ih =>
    rw [List.map_cons, List.flatMap_cons, ih, parS_bk, List.flatMap_cons, ← bk_app, bytesOf_app]
theorem commit_back {l : List UInt8} {r : CommitR} (h : commitF l = some r) : commitL (bk r.t) (r.P.map bk) (bk r.a) (bk r.c) (bk r.m) = bytesOf (bk l) := by
  unfold commitL
  rw [headS_bk, parL_bk, tailS_bk, ← bytesOf_app, bk_app, ← bytesOf_app, bk_app]
  conv => rhs; rw [commit_backU h]
  rfl
theorem tag_back {l : List UInt8} {r : TagR} (h : tagF l = some r) : tagS (bk r.o) (strOfNums (nameL (r.k : Int))) (bk r.n) (bk r.g) (bk r.m) = bk l := by
  unfold tagS objectW typeW tagW taggerW nl2W
  rw [tag_backU h, ← bk_of (strOfNums (nameL (r.k : Int)))]
  show bk [111, 98, 106, 101, 99, 116, 32] ++ bk r.o ++ bk [10, 116, 121, 112, 101, 32] ++ bk _ ++ bk [10, 116, 97, 103, 32] ++ bk r.n ++ bk [10, 116, 97, 103, 103, 101, 114, 32] ++ bk r.g ++ bk [10, 10] ++ bk r.m = _
  rw [bk_app, bk_app, bk_app, bk_app, bk_app, bk_app, bk_app, bk_app, bk_app]
  unfold tagU
  congr 1
  simp [objectN, typeN, tagN, taggerN, bk_list]
end Go.Proofs.YtdlabapfcghfmaaGreatDoor
namespace Go.Proofs.YtdlabapfcghfmaaGreatDoor
open Go.RowKit
set_option linter.unusedVariables false
set_option linter.unusedSimpArgs false

structure Lk where
  id : ByteArray
  k : Int
def lkV (x : Lk) : List Value := [.string x.id, .int .i64 x.k]
def lkVs (K : List Lk) : List Value := K.flatMap lkV
theorem lkVs_len (K : List Lk) : (lkVs K).length = K.length * 2 := by
  unfold lkVs
  induction K with
  | nil => rfl
  | cons x K ih => rw [List.flatMap_cons, List.length_append, ih]; simp [lkV]; omega
theorem lkVs_snoc (K : List Lk) (x : Lk) : lkVs (K ++ [x]) = lkVs K ++ lkV x := by unfold lkVs; rw [List.flatMap_append]; simp
theorem lkVs_at (K : List Lk) (i : Nat) (x : Lk) (h : K[i]? = some x) : (lkVs K)[i * 2]? = some (.string x.id) ∧ (lkVs K)[i * 2 + 1]? = some (.int .i64 x.k) := by
  induction K generalizing i with
  | nil => simp at h
  | cons y K ih =>
    have e : lkVs (y :: K) = lkV y ++ lkVs K := by unfold lkVs; rw [List.flatMap_cons]
    rw [e]
    rcases i with _ | i
    · simp at h; subst h
      exact ⟨rfl, rfl⟩
    · have h' := ih i (by simpa using h)
      have el : (lkV y).length = 2 := rfl
      rw [List.getElem?_append_right (by rw [el]; omega), List.getElem?_append_right (by rw [el]; omega), el]
      rw [show (i + 1) * 2 - 2 = i * 2 by omega, show (i + 1) * 2 + 1 - 2 = i * 2 + 1 by omega]
      exact h'
theorem OwnS.clipN {w : World} {base size : Nat} {e : TypeId} {A : Option Addr} {n c : Nat} {xs : List Value} (h : OwnS w base e size (.slice A n c) n xs) : OwnS w base e size (.slice A n n) n xs := by
  refine ⟨h.1, ?_⟩
  rcases h.2 with ⟨hv, rfl⟩ | ⟨g, off, cap, cur, hv, hb, hg, hn, hm, hs, ht⟩
  · injection hv with hA _ hc
    subst hA
    exact .inl ⟨rfl, rfl⟩
  · injection hv with hA _ hc
    subst hA; subst hc
    exact .inr ⟨g, off, n, cur, rfl, hb, hg, Nat.le_refl _, by omega, by have := Nat.mul_le_mul_right size hn; omega, ht⟩
theorem OwnS.new2 (w : World) (base : Nat) (hb : base ≤ w.heap.size) (a b : Value) (t : TypeId) : OwnS (w.alloc (.cells #[a, b] t)) base t 2 (.slice (some ⟨w.heap.size, 0, none⟩) 1 1) 1 [a, b] :=
  ⟨rfl, .inr ⟨w.heap.size, 0, 1, #[a, b], rfl, hb, ⟨_, heap_alloc_new w _, .inl (Nat.le_refl _)⟩, Nat.le_refl _, by unfold maxLen; omega, by simp, by simp⟩⟩
theorem Src.lk {P : Program} (w : World) (x : Lk) (t : TypeId) : Src P (w.alloc (.cells #[.string x.id, .int .i64 x.k] t)) 2 (.slice (some ⟨w.heap.size, 0, none⟩) 1 1) 1 (lkV x) :=
  Src.vals rfl (by intro u hu; simp [lkV] at hu; rcases hu with rfl | rfl <;> rfl) (fun _ => ⟨_, rfl, World.news_of_block (heap_alloc_new w _)⟩)
theorem info_lk : (Tryz.prog.info? 55).map (fun i => (i.zero, i.size, i.bytes)) = some (some (.agg #[.string ⟨#[]⟩, .int .i64 0]), 2, 24) := by kernel_rfl
/-- What Links answers. -/
def LinksPost (K : List Lk) (w : World) (e : Ending) (w' : World) : Prop :=
  Below w.heap.size w w' ∧ ∃ A, e = .returned (.slice A K.length K.length) ∧ OwnS w' w.heap.size 55 2 (.slice A K.length K.length) K.length (lkVs K)
set_option maxRecDepth 100000 in
theorem clipLk_any (A : Option Addr) (n c : Nat) (w : World) (hn : n ≤ c) (hc : c ≤ 9223372036854775807) :
    Calls Tryz.prog 163 #[.slice A n c] w fun e w' => e = .returned (.slice A n n) ∧ w = w' := by
  have h0 : (n : Int) ≤ c := by omega
  go_enter Tryz.func163, Tryz.ntmps163
  go_wp2
  go_ret
  exact ⟨rfl, rfl⟩
theorem linksBlob_any (v : Value) (w : World) : Calls Tryz.prog 168 #[.agg #[v]] w (LinksPost [] w) := by
  go_enter Tryz.func168, Tryz.ntmps168
  go_wp2
  go_ret
  exact ⟨(Below.refl _ _).alloc (Nat.le_refl _) _, none, rfl, OwnS.nil _ _ _ _⟩
set_option maxRecDepth 100000 in
theorem linksTag_any (o : ByteArray) (k : Int) (v2 v3 v4 : Value) (w : World) : Calls Tryz.prog 172 #[.agg #[.string o, .int .i64 k, v2, v3, v4]] w (LinksPost [⟨o, k⟩] w) := by
  have hl0 : Below w.heap.size w (w.alloc (.cells #[.string o, .int .i64 k, v2, v3, v4] 91)) := (Below.refl _ _).alloc (Nat.le_refl _) _
  have k0 : (w.alloc (.cells #[.string o, .int .i64 k, v2, v3, v4] 91)).cell? ⟨w.heap.size, 0, none⟩ = some (.string o) := by rw [World.cell?_alloc_at _ _ _ _ (by simp)]; rfl
  have k1 : (w.alloc (.cells #[.string o, .int .i64 k, v2, v3, v4] 91)).cell? ⟨w.heap.size, 1, none⟩ = some (.int .i64 k) := by rw [World.cell?_alloc_at _ _ _ _ (by simp)]; rfl
  have HL := Lib.hid hl0
  go_enter Tryz.func172, Tryz.ntmps172
  go_upto_region 1 with (fail)
  generalize w.alloc (.cells #[.string o, .int .i64 k, v2, v3, v4] 91) = w0 at *
  clear hl0
  go_wp2
  go_ret
  refine ⟨HL.out.alloc HL.out.size _, some ⟨w0.heap.size, 0, none⟩, rfl, ?_⟩
  exact OwnS.new2 w0 _ HL.out.size _ _ _
/-- A commit's. -/
def comK (t : ByteArray) (P : List ByteArray) : List Lk := ⟨t, 2⟩ :: P.map fun p => ⟨p, 1⟩
theorem comK_succ {t p : ByteArray} {P : List ByteArray} {k : Nat} (h : P[k]? = some p) : comK t (P.take (k + 1)) = comK t (P.take k) ++ [⟨p, 1⟩] := by
  unfold comK
  rw [List.take_add_one, h]
  simp
set_option maxRecDepth 100000 in
set_option maxHeartbeats 2000000 in
theorem linksCommit_any (t : ByteArray) (A : Option Addr) (N cP : Nat) (P : List ByteArray) (v2 v3 v4 : Value) (w : World) (hS : StrsAt w A P) (hN : P.length = N) (hNb : N ≤ 1099511627776) :
    Calls Tryz.prog 165 #[.agg #[.string t, .slice A N cP, v2, v3, v4]] w (LinksPost (comK t P) w) := by
  obtain ⟨i0, hi, hz0, hz1, hz2⟩ := info_parts info_lk
  have HN := Lib.hid hN
  have hl0 : Below w.heap.size w (w.alloc (.cells #[.string t, .slice A N cP, v2, v3, v4] 44)) := (Below.refl _ _).alloc (Nat.le_refl _) _
  have k0 : (w.alloc (.cells #[.string t, .slice A N cP, v2, v3, v4] 44)).cell? ⟨w.heap.size, 0, none⟩ = some (.string t) := by rw [World.cell?_alloc_at _ _ _ _ (by simp)]; rfl
  have hk1 : (w.alloc (.cells #[.string t, .slice A N cP, v2, v3, v4] 44)).cell? ⟨w.heap.size, 1, none⟩ = some (.slice A N cP) := by rw [World.cell?_alloc_at _ _ _ _ (by simp)]; rfl
  have HG : Hid (w.heap.size < (w.alloc (.cells #[.string t, .slice A N cP, v2, v3, v4] 44)).heap.size) := Lib.hid (by simp)
  have HL := Lib.hid hl0
  have HS := Lib.hid (hS.below hl0)
  have HK1 := Lib.hid hk1
  clear hS hN hl0 hk1
  go_enter Tryz.func165, Tryz.ntmps165
  go_upto_region 1 with (fail)
  generalize w.alloc (.cells #[.string t, .slice A N cP, v2, v3, v4] 44) = w0 at *
  go_upto_region 2 with (fail)
  have ho1 := OwnS.new2 w0 w0.heap.size (Nat.le_refl _) (.string t) (.int .i64 2) 55
  have hl1 : Below w0.heap.size w0 (w0.alloc (.cells #[.string t, .int .i64 2] 55)) := (Below.refl _ _).alloc (Nat.le_refl _) _
  have k1 : (w0.alloc (.cells #[.string t, .int .i64 2] 55)).cell? ⟨w.heap.size, 1, none⟩ = some (.slice A N cP) := (hl1.cell (p := ⟨w.heap.size, 1, none⟩) HG.out).trans HK1.out
  have HO1 := Lib.hid ho1
  have HL1 := Lib.hid hl1
  clear ho1 hl1 k0
  generalize w0.alloc (.cells #[.string t, .int .i64 2] 55) = w1 at *
  generalize Value.slice (some ⟨w0.heap.size, 0, none⟩) 1 1 = v1 at *
  go_wp2
  go_loopw [13, 3] (fun vi vo wr => ∃ (k : Nat) (v : Value), vi = .int .i64 k ∧ v = vo ∧ k ≤ N ∧ OwnS wr w0.heap.size 55 2 v (comK t (P.take k)).length (lkVs (comK t (P.take k))) ∧ Below w0.heap.size w0 wr) (fun vi _ _ => N - (intOf vi).toNat)
  case atStart => exact ⟨0, _, rfl, rfl, Nat.zero_le _, HO1.out, HL1.out⟩
  case round =>
    clear HO1 HL1 k1
    obtain ⟨k, v, rfl, rfl, hk, ho, hb⟩ := hrel
    obtain ⟨Av, cv, rfl⟩ := ho.shape
    have HB := Lib.hid hb
    have hlen : (comK t (P.take k)).length = k + 1 := by unfold comK; simp; rw [HN.out]; omega
    by_cases hlt : k < N
    · obtain ⟨p, hp⟩ : ∃ p, P[k]? = some p := ⟨_, List.getElem?_eq_getElem (by rw [HN.out]; exact hlt)⟩
      obtain ⟨eb, eo, rfl, heb, hcell⟩ := (HS.out.below hb) (by rw [HN.out]; omega)
      have r0 := hcell k p hp
      have d2 : decide ((k : Int) < (N : Int)) = true := decide_eq_true (by omega)
      have d2' : decide (k < N) = true := decide_eq_true hlt
      have HKS := Lib.hid (comK_succ (t := t) hp)
      have HLEN := Lib.hid hlen
      have HO := Lib.hid ho
      have hl2 : Below wr.heap.size wr (wr.alloc (.cells #[.string p, .int .i64 1] 55)) := (Below.refl _ _).alloc (Nat.le_refl _) _
      have HO2 := Lib.hid (ho.alloc (.cells #[.string p, .int .i64 1] 55))
      have HB2 := Lib.hid (hb.trans (hl2.mono hb.size))
      have HSRC := Lib.hid (Src.lk (P := Tryz.prog) wr ⟨p, 1⟩ 55)
      have hbs : w0.heap.size ≤ (wr.alloc (.cells #[.string p, .int .i64 1] 55)).heap.size := HB2.out.size
      generalize hkl : (comK t (P.take k)).length = kl at *
      have hbyte : (kl + 1) * 24 ≤ 140737488355328 := by omega
      have hmax : kl + 1 ≤ maxLen := by unfold maxLen; omega
      have HKL := Lib.hid hkl
      clear hcell hp ho hb hl2 heb hlen hkl
      go_wp2_with (at_builtin; go_loud (refine wpList_append_S rfl (.tmp 17) (.tmp 20) 38 38 rfl i0 (.agg #[.string ⟨#[]⟩, .int .i64 0]) 24 (.slice 55) Tryz.underlying38 Tryz.underlying38 (fun _ h => by cases h) hi hz0 hz1 hz2 rfl rfl rfl HO2.out HSRC.out hmax hbyte hbs ?_; intro A9 c9 w9 ho9 hg9 hw9))
      have HO9 : Hid (OwnS w9 w0.heap.size 55 2 (.slice A9 (kl + 1) c9) (comK t (P.take (k + 1))).length (lkVs (comK t (P.take (k + 1))))) := Lib.hid (by
        rw [HKS.out, List.length_append, lkVs_snoc, HKL.out]
        exact ho9)
      have HB9 := Lib.hid (HB2.out.grown hg9 hbs (fun j hj => (HO2.out.lt j hj).1))
      clear ho9 hg9 hw9
      go_roundw
      case rel => exact ⟨k + 1, _, rfl, rfl, by omega, HO9.out, HB9.out⟩
      case measure => simp [intOf]; omega
    · obtain rfl : k = N := by omega
      have d2 : decide ((k : Int) < (k : Int)) = false := decide_eq_false (by omega)
      have d2' : decide (k < k) = false := decide_eq_false (by omega)
      rw [List.take_of_length_le (by rw [HN.out]; exact Nat.le_refl _)] at ho
      rw [List.take_of_length_le (by rw [HN.out]; exact Nat.le_refl _)]
      have hcp := ho.cap
      have hcm := ho.capm
      have HO := Lib.hid ho
      clear ho hb hlen
      go_wp2_with (go_at_call 163; refine (clipLk_any _ _ _ _ hcp hcm).mono ?_; rintro e w9 ⟨rfl, rfl⟩)
      go_ret
      exact ⟨HL.out.trans (HB.out.mono (Nat.le_of_lt HG.out)), Av, rfl, (HO.out.clipN).base_ (Nat.le_of_lt HG.out)⟩
end Go.Proofs.YtdlabapfcghfmaaGreatDoor
namespace Go.Proofs.YtdlabapfcghfmaaGreatDoor
open Go.RowKit
set_option linter.unusedVariables false
set_option linter.unusedSimpArgs false

def entK (x : Ent) : List Lk := if x.m.data.toList = [52, 48, 48, 48, 48] then [⟨x.i, 2⟩] else if x.m.data.toList = [49, 54, 48, 48, 48, 48] then [] else [⟨x.i, 3⟩]
def treeK (L : List Ent) : List Lk := L.flatMap entK
theorem treeK_succ {L : List Ent} {k : Nat} {x : Ent} (h : L[k]? = some x) : treeK (L.take (k + 1)) = treeK (L.take k) ++ entK x := by
  unfold treeK
  rw [List.take_add_one, h, List.flatMap_append]
  simp
theorem treeK_len (L : List Ent) : (treeK L).length ≤ L.length := by
  unfold treeK
  induction L with
  | nil => simp
  | cons x L ih =>
    rw [List.flatMap_cons, List.length_append, List.length_cons]
    have : (entK x).length ≤ 1 := by unfold entK; split; simp; split <;> simp
    omega
set_option maxRecDepth 100000 in
set_option maxHeartbeats 4000000 in
theorem linksTree_any (A : Option Addr) (N c : Nat) (L : List Ent) (w : World) (hE : EntsAt w A L) (hN : L.length = N) (hNb : N ≤ 1099511627776) :
    Calls Tryz.prog 162 #[.agg #[.slice A N c]] w (LinksPost (treeK L) w) := by
  obtain ⟨i0, hi, hz0, hz1, hz2⟩ := info_parts info_lk
  have HN := Lib.hid hN
  have hl0 : Below w.heap.size w (w.alloc (.cells #[.slice A N c] 36)) := (Below.refl _ _).alloc (Nat.le_refl _) _
  have HE := Lib.hid (hE.below hl0)
  have HL := Lib.hid hl0
  have k0 : (w.alloc (.cells #[.slice A N c] 36)).cell? ⟨w.heap.size, 0, none⟩ = some (.slice A N c) := by rw [World.cell?_alloc_at _ _ _ _ (by simp)]; rfl
  clear hE hN hl0
  go_enter Tryz.func162, Tryz.ntmps162
  go_upto_region 1 with (fail)
  generalize w.alloc (.cells #[.slice A N c] 36) = w0 at *
  generalize hB : w.heap.size = B at *
  have HB := Lib.hid hB
  clear hB
  go_upto_region 3 with (fail)
  go_loopw [9, 3] (fun vi vo wr => ∃ (k : Nat) (v1 : Value), vi = .int .i64 k ∧ v1 = vo ∧ k ≤ N ∧ OwnS wr w0.heap.size 55 2 v1 (treeK (L.take k)).length (lkVs (treeK (L.take k))) ∧ Below w0.heap.size w0 wr) (fun vi _ _ => N - (intOf vi).toNat)
  case atStart => exact ⟨0, _, rfl, rfl, Nat.zero_le _, by simpa [treeK, lkVs] using OwnS.nil _ _ _ _, Below.refl _ _⟩
  case round =>
    obtain ⟨k, v, rfl, rfl, hk, ho, hB2⟩ := hrel
    obtain ⟨Av, cv, rfl⟩ := ho.shape
    have HB0 := Lib.hid hB2
    have HER := Lib.hid (HE.out.below hB2)
    by_cases hlt : k < N
    · obtain ⟨x, hx⟩ : ∃ x, L[k]? = some x := ⟨_, List.getElem?_eq_getElem (by rw [HN.out]; exact hlt)⟩
      obtain ⟨eb, eo, rfl, heb, hcell⟩ := HER.out (by rw [HN.out]; omega)
      obtain ⟨r0, r1, r2⟩ := hcell k x hx
      have d2 : decide ((k : Int) < (N : Int)) = true := decide_eq_true (by omega)
      have d2' : decide (k < N) = true := decide_eq_true hlt
      have HKS := Lib.hid (treeK_succ hx)
      have hkl0 : (treeK (L.take k)).length ≤ k := Nat.le_trans (treeK_len _) (by rw [List.length_take]; omega)
      have HO := Lib.hid ho
      clear hcell hx ho hB2 heb HER
      go_upto_region 5 with (fail)
      have hl5 : Below wr.heap.size wr (wr.alloc (.cells #[.string x.m, .string x.n, .string x.i] 28)) := (Below.refl _ _).alloc (Nat.le_refl _) _
      have he5 := entF_new wr x
      have HO5 := Lib.hid (HO.out.alloc (.cells #[.string x.m, .string x.n, .string x.i] 28))
      have HB05 := Lib.hid (HB0.out.trans (hl5.mono HB0.out.size))
      clear r0 r1 r2 hl5 HO HB0
      generalize wr.alloc (.cells #[.string x.m, .string x.n, .string x.i] 28) = w5 at *
      generalize wr.heap.size = og at *
      have q0 : w5.cell? ⟨og, 0, none⟩ = some (.string x.m) := he5.cell 0 (by decide)
      have q2 : w5.cell? ⟨og, 2, none⟩ = some (.string x.i) := he5.cell 2 (by decide)
      have hml : x.m.toList = x.m.data.toList := Lib.toList_data _
      generalize hkl : (treeK (L.take k)).length = kl at *
      have HKL := Lib.hid hkl
      have hbs0 : w0.heap.size ≤ w5.heap.size := HB05.out.size
      have hl6 : ∀ z : Int, Below w5.heap.size w5 (w5.alloc (.cells #[.string x.i, .int .i64 z] 55)) := fun z => (Below.refl _ _).alloc (Nat.le_refl _) _
      have HO6 := Lib.hid (fun z : Int => HO5.out.alloc (.cells #[.string x.i, .int .i64 z] 55))
      have HB6 := Lib.hid (fun z : Int => HB05.out.trans ((hl6 z).mono HB05.out.size))
      have HSRC := Lib.hid (fun z : Int => Src.lk (P := Tryz.prog) w5 ⟨x.i, z⟩ 55)
      have HBS := Lib.hid (fun z : Int => (HB6.out z).size)
      have hbyte : (kl + 1) * 24 ≤ 140737488355328 := by omega
      have hmax : kl + 1 ≤ maxLen := by unfold maxLen; omega
      clear he5 hl6 hkl
      by_cases h1 : x.m.data.toList = [52, 48, 48, 48, 48]
      · have HEK : Hid (entK x = [⟨x.i, 2⟩]) := Lib.hid (by unfold entK; rw [if_pos h1])
        have e1 : (x.m.toList == [52, 48, 48, 48, 48]) = true := by rw [hml, h1]; rfl
        clear h1 hml
        go_upto_region 10 with (at_builtin; go_loud (refine wpList_append_S rfl (.tmp 23) (.tmp 27) 38 38 rfl i0 (.agg #[.string ⟨#[]⟩, .int .i64 0]) 24 (.slice 55) Tryz.underlying38 Tryz.underlying38 (fun _ h => by cases h) hi hz0 hz1 hz2 rfl rfl rfl (HO6.out 2) (HSRC.out 2) hmax hbyte (HBS.out 2) ?_; intro A9 c9 w9 ho9 hg9 hw9))
        have HO9 : Hid (OwnS w9 w0.heap.size 55 2 (.slice A9 (kl + 1) c9) (treeK (L.take (k + 1))).length (lkVs (treeK (L.take (k + 1))))) := Lib.hid (by
          rw [HKS.out, HEK.out, List.length_append, lkVs_snoc, HKL.out]
          exact ho9)
        have HB9 := Lib.hid ((HB6.out 2).grown hg9 (HBS.out 2) (fun j hj => ((HO6.out 2).lt j hj).1))
        clear ho9 hg9 hw9 HO6 HB6 HSRC HBS
        go_wp2
        go_roundw
        case rel => exact ⟨k + 1, _, rfl, rfl, by omega, HO9.out, HB9.out⟩
        case measure => simp [intOf]; omega
      · have e1 : (x.m.toList == [52, 48, 48, 48, 48]) = false := by rw [hml, beq_eq_false_iff_ne]; exact h1
        by_cases h2 : x.m.data.toList = [49, 54, 48, 48, 48, 48]
        · have HEK : Hid (entK x = []) := Lib.hid (by unfold entK; rw [if_neg h1, if_pos h2])
          have e2 : (x.m.toList == [49, 54, 48, 48, 48, 48]) = true := by rw [hml, h2]; rfl
          have HO9 : Hid (OwnS w5 w0.heap.size 55 2 (.slice Av kl cv) (treeK (L.take (k + 1))).length (lkVs (treeK (L.take (k + 1))))) := Lib.hid (by
            rw [HKS.out, HEK.out, List.append_nil, HKL.out]
            exact HO5.out)
          clear h1 h2 hml HO6 HB6 HSRC HBS
          go_wp2
          go_roundw
          case rel => exact ⟨k + 1, _, rfl, rfl, by omega, HO9.out, HB05.out⟩
          case measure => simp [intOf]; omega
        · have HEK : Hid (entK x = [⟨x.i, 3⟩]) := Lib.hid (by unfold entK; rw [if_neg h1, if_neg h2])
          have e2 : (x.m.toList == [49, 54, 48, 48, 48, 48]) = false := by rw [hml, beq_eq_false_iff_ne]; exact h2
          clear h1 h2 hml
          go_upto_region 10 with (at_builtin; go_loud (refine wpList_append_S rfl (.tmp 15) (.tmp 19) 38 38 rfl i0 (.agg #[.string ⟨#[]⟩, .int .i64 0]) 24 (.slice 55) Tryz.underlying38 Tryz.underlying38 (fun _ h => by cases h) hi hz0 hz1 hz2 rfl rfl rfl (HO6.out 3) (HSRC.out 3) hmax hbyte (HBS.out 3) ?_; intro A9 c9 w9 ho9 hg9 hw9))
          have HO9 : Hid (OwnS w9 w0.heap.size 55 2 (.slice A9 (kl + 1) c9) (treeK (L.take (k + 1))).length (lkVs (treeK (L.take (k + 1))))) := Lib.hid (by
            rw [HKS.out, HEK.out, List.length_append, lkVs_snoc, HKL.out]
            exact ho9)
          have HB9 := Lib.hid ((HB6.out 3).grown hg9 (HBS.out 3) (fun j hj => ((HO6.out 3).lt j hj).1))
          clear ho9 hg9 hw9 HO6 HB6 HSRC HBS
          go_wp2
          go_roundw
          case rel => exact ⟨k + 1, _, rfl, rfl, by omega, HO9.out, HB9.out⟩
          case measure => simp [intOf]; omega
    · obtain rfl : k = N := by omega
      have d2 : decide ((k : Int) < (k : Int)) = false := decide_eq_false (by omega)
      have d2' : decide (k < k) = false := decide_eq_false (by omega)
      rw [List.take_of_length_le (by rw [HN.out]; exact Nat.le_refl _)] at ho
      rw [List.take_of_length_le (by rw [HN.out]; exact Nat.le_refl _)]
      have hcp := ho.cap
      have hcm := ho.capm
      have HO := Lib.hid ho
      have HBS : Hid (B ≤ w0.heap.size) := Lib.hid (by rw [← HB.out]; exact HL.out.size)
      clear ho hB2
      go_wp2_with (go_at_call 163; refine (clipLk_any _ _ _ _ hcp hcm).mono ?_; rintro e w9 ⟨rfl, rfl⟩)
      go_ret
      exact ⟨by rw [HB.out]; exact HL.out.trans (HB0.out.mono HBS.out), Av, rfl, (HO.out.clipN).base_ (by rw [HB.out]; exact HBS.out)⟩
end Go.Proofs.YtdlabapfcghfmaaGreatDoor
namespace Go.Proofs.YtdlabapfcghfmaaGreatDoor
open Go.RowKit
set_option linter.unusedVariables false
set_option linter.unusedSimpArgs false

/-- A call through an interface. -/
theorem run_invoke {P : Program} {o : Oper} {ρ : Operand → Value} {x : Operand} {name : String} {t : TypeId} {v r : Value} {f : FuncId} {w : World}
    (ho : o.op = .call { callee := .invoke x name, args := #[], argTypes := #[] }) (hx : ρ x = .iface t v) (hm : (method (P.types.size + Made.depth) t v name).run P w = .ok (f, r) w) (hc : (callFunc f #[r]).run P w = .ok (.enter f #[r]) w) :
    (execOp ρ o).run P w = .ok (.enter f #[r]) w := by
  have hp : (program).run P w = .ok P w := rfl
  unfold execOp
  simp only [ho, resolve, invoke, callMethod, hx, Sem.run_bind, Sem.run_pure, Result.andThen_ok, List.map_toArray, List.map_nil, hp]
  simp [Sem.run_bind, hp, hm, hc, callMethod]
/-- What a method of an interface's value answers. -/
def Meth (name : String) (IF : Value) (w : World) (Q : Ending → World → Prop) : Prop :=
  ∃ t v f r, IF = .iface t v ∧ (method (Tryz.prog.types.size + Made.depth) t v name).run Tryz.prog w = .ok (f, r) w ∧ (callFunc f #[r]).run Tryz.prog w = .ok (.enter f #[r]) w ∧ Calls Tryz.prog f #[r] w Q
theorem wpList_invoke {ops : Array Oper} {rest : List Oper} {o : Oper} {a : Act} {Q : Exit → Act → World → Prop} {w : World} (hgd : o.guard = none) (x : Operand) (name : String)
    (ho : o.op = .call { callee := .invoke x name, args := #[], argTypes := #[] }) (IF : Value) (hx : a.eval x = IF) (R : Ending → World → Prop) (hm : Meth name IF w R)
    (h : ∀ e w', R e w' → ∃ v, e = .returned v ∧ wpList Tryz.prog ops Q rest (a.put o.dst v) w') : wpList Tryz.prog ops Q (o :: rest) a w :=
  wpList_plain hgd fun _ hK => by
    obtain ⟨t, v, f, r, rfl, h1, h2, h3⟩ := hm
    unfold Oper.wp
    rw [run_invoke ho hx h1 h2, Oper.upon_enter]
    refine h3.mono fun e w' hr => ?_
    obtain ⟨v', rfl, h'⟩ := h e w' hr
    exact hK _ _ h'
set_option maxRecDepth 100000 in
/-- object.Links, of any object. -/
theorem links_any (IF : Value) (w : World) (R : Ending → World → Prop) (hm : Meth "Links" IF w R) (hr : ∀ e w', R e w' → ∃ v, e = .returned v) :
    Calls Tryz.prog 12 #[IF] w R := by
  have hif : ∃ t v, IF = .iface t v := by obtain ⟨t, v, _, _, h, _⟩ := hm; exact ⟨t, v, h⟩
  obtain ⟨t, v, rfl⟩ := hif
  have HM := Lib.hid hm
  have HR := Lib.hid hr
  clear hm hr
  go_enter Tryz.func12, Tryz.ntmps12
  go_upto_region 3 with (fail)
  go_wp2_with (refine wpList_invoke rfl (.tmp 5) "Links" rfl _ rfl R HM.out ?_; intro e w1 h1; obtain ⟨v1, rfl⟩ := HR.out e w1 h1; refine ⟨_, rfl, ?_⟩; have H1 := Lib.hid h1; clear h1)
  exact H1.out
/-- An object that prints as the bytes l, whatever changes below B. -/
def ObjM (B : Nat) (w3 : World) (IF : Value) (l : List UInt8) : Prop :=
  (∃ t v, IF = .iface t v) ∧ ∀ w1, Chg (fun k => k < B) w3 w1 → Meth "Bytes" IF w1 (BytesPost w1 (bytesOf (bk l))) ∧ ∃ K : List Lk, K.length ≤ 1099511627776 ∧ Meth "Links" IF w1 (LinksPost K w1)
theorem OwnS.chgB {B : Nat} {w3 w1 : World} {e : TypeId} {size n : Nat} {v : Value} {xs : List Value} (h : OwnS w3 B e size v n xs) (hc : Chg (fun k => k < B) w3 w1) : OwnS w1 B e size v n xs :=
  h.chg hc fun k hk => Nat.not_lt.2 (h.lt k hk).1
theorem hexS_size (id : List UInt8) : (hexS id).size = 2 * id.length := by
  unfold hexS
  rw [strOfNums_size, hexL_len, bytesOf_len, bk_size]
theorem entU_id {l r : List UInt8} {x : Ent} (h : entU l = some (x, r)) : x.i.size ≤ 40 := by
  unfold entU at h
  split at h
  · exact absurd h (by simp)
  · split at h
    · exact absurd h (by simp)
    · simp only at h
      split at h
      · exact absurd h (by simp)
      · split at h
        · exact absurd h (by simp)
        · split at h
          · exact absurd h (by simp)
          · injection h with h
            injection h with h1 h2
            rw [← h1, hexS_size, List.length_take]
            omega
theorem treeU_id : ∀ (f : Nat) (l : List UInt8) (acc L : List Ent), treeU f l acc = some L → (∀ x ∈ acc, x.i.size ≤ 40) → ∀ x ∈ L, x.i.size ≤ 40
  | 0, _, _, _, h, _ => by simp [treeU] at h
  | f + 1, l, acc, L, h, ha => by
    rw [treeU] at h
    split at h
    · injection h with h
      subst h
      exact ha
    · cases hx : entU l with
      | none => rw [hx] at h; simp at h
      | some q =>
        obtain ⟨x, r⟩ := q
        rw [hx] at h
        simp only at h
        split at h
        · exact absurd h (by simp)
        · refine treeU_id f r (acc ++ [x]) L h fun y hy => ?_
          rcases List.mem_append.1 hy with hy | hy
          · exact ha y hy
          · rw [List.mem_singleton.1 hy]; exact entU_id hx
theorem treeU_num : ∀ (f : Nat) (l : List UInt8) (acc L : List Ent), treeU f l acc = some L → L.length ≤ acc.length + l.length
  | 0, _, _, _, h => by simp [treeU] at h
  | f + 1, l, acc, L, h => by
    rw [treeU] at h
    split at h
    · injection h with h
      subst h
      omega
    · cases hx : entU l with
      | none => rw [hx] at h; simp at h
      | some q =>
        obtain ⟨x, r⟩ := q
        rw [hx] at h
        simp only at h
        split at h
        · exact absurd h (by simp)
        · have ih := treeU_num f r (acc ++ [x]) L h
          have hl := entU_len hx
          rw [List.length_append] at ih
          simp only [List.length_cons, List.length_nil] at ih
          omega
theorem pars_num (P : List (List UInt8)) : P.length ≤ (P.flatMap parU).length := by
  induction P with
  | nil => simp
  | cons p P ih =>
    rw [List.flatMap_cons, List.length_append, List.length_cons]
    have : 1 ≤ (parU p).length := by unfold parU; simp; omega
    omega
theorem commit_num {l : List UInt8} {r : CommitR} (h : commitF l = some r) : r.P.length ≤ l.length := by
  rw [commit_backU h]
  have := pars_num r.P
  unfold commitU
  simp only [List.length_append]
  omega
theorem objTree {B : Nat} {w3 : World} {A : Option Addr} {L : List Ent} {l : List UInt8} (h : treeF l = some L) (ho : OwnS w3 B 28 3 (.slice A L.length L.length) L.length (entVs L)) (hs : l.length ≤ 1099511627776) :
    ObjM B w3 (.iface 36 (.agg #[.slice A L.length L.length])) l := by
  refine ⟨⟨_, _, rfl⟩, fun w1 hc => ?_⟩
  have hE := (ho.chgB hc).entsAt
  have hn := treeU_num _ _ _ _ h
  simp only [List.length_nil, Nat.zero_add] at hn
  have hid := treeU_id _ _ _ _ h (by simp)
  have hb := tree_back h
  refine ⟨⟨_, _, 11, .agg #[.slice A L.length L.length], rfl, by kernel_rfl, enters_of Tryz.func11 (by kernel_rfl) rfl _ _, ?_⟩, treeK L, Nat.le_trans (treeK_len L) (by omega), ⟨_, _, 162, .agg #[.slice A L.length L.length], rfl, by kernel_rfl, enters_of Tryz.func162 (by kernel_rfl) rfl _ _, ?_⟩⟩
  · rw [← hb]
    exact treeBytes_any A _ _ L w1 hE rfl (by omega) (fun x hx => Nat.le_trans (hid x hx) (by decide)) (by rw [hb, bytesOf_len, bk_size]; omega)
  · exact linksTree_any A _ _ L w1 hE rfl (by omega)
theorem objCommit {B : Nat} {w3 : World} {A : Option Addr} {r : CommitR} {l : List UInt8} (h : commitF l = some r) (ho : OwnS w3 B 9 1 (.slice A r.P.length r.P.length) r.P.length (strVs r.P)) (hs : l.length ≤ 1099511627775) :
    ObjM B w3 (.iface 44 (.agg #[.string (bk r.t), .slice A r.P.length r.P.length, .string (bk r.a), .string (bk r.c), .string (bk r.m)])) l := by
  refine ⟨⟨_, _, rfl⟩, fun w1 hc => ?_⟩
  have hS := (ho.chgB hc).strsAt
  have hn := commit_num h
  have hb := commit_back h
  refine ⟨⟨_, _, 17, .agg #[.string (bk r.t), .slice A r.P.length r.P.length, .string (bk r.a), .string (bk r.c), .string (bk r.m)], rfl, by kernel_rfl, enters_of Tryz.func17 (by kernel_rfl) rfl _ _, ?_⟩, comK (bk r.t) (r.P.map bk), by unfold comK; simp; omega, ⟨_, _, 165, .agg #[.string (bk r.t), .slice A r.P.length r.P.length, .string (bk r.a), .string (bk r.c), .string (bk r.m)], rfl, by kernel_rfl, enters_of Tryz.func165 (by kernel_rfl) rfl _ _, ?_⟩⟩
  · rw [← hb]
    exact commitBytes_any _ A _ _ (r.P.map bk) _ _ _ w1 hS (by simp) (by omega) (by rw [hb, bytesOf_len, bk_size]; omega)
  · exact linksCommit_any _ A _ _ (r.P.map bk) _ _ _ w1 hS (by simp) (by omega)
theorem objTag {B : Nat} {w3 : World} {r : TagR} {l : List UInt8} (h : tagF l = some r) (hs : l.length ≤ 1099511627776) :
    ObjM B w3 (.iface 91 (.agg #[.string (bk r.o), .int .i64 (r.k : Int), .string (bk r.n), .string (bk r.g), .string (bk r.m)])) l := by
  refine ⟨⟨_, _, rfl⟩, fun w1 hc => ?_⟩
  have hb := tag_back h
  refine ⟨⟨_, _, 170, .agg #[.string (bk r.o), .int .i64 (r.k : Int), .string (bk r.n), .string (bk r.g), .string (bk r.m)], rfl, by kernel_rfl, enters_of Tryz.func170 (by kernel_rfl) rfl _ _, ?_⟩, [⟨bk r.o, (r.k : Int)⟩], by simp, ⟨_, _, 172, .agg #[.string (bk r.o), .int .i64 (r.k : Int), .string (bk r.n), .string (bk r.g), .string (bk r.m)], rfl, by kernel_rfl, enters_of Tryz.func172 (by kernel_rfl) rfl _ _, ?_⟩⟩
  · rw [← hb]
    exact tagBytes_any _ _ _ _ _ w1 (by rw [hb, bk_size]; omega)
  · exact linksTag_any _ _ _ _ _ w1
theorem objBlob {B : Nat} {w3 : World} {A : Option Addr} {l : List UInt8} (ho : OwnS w3 B 5 1 (.slice A l.length l.length) l.length ((bytesOf (bk l)).map (Value.int .u8))) (hs : l.length ≤ 1099511627776) :
    ObjM B w3 (.iface 71 (.agg #[.slice A l.length l.length])) l := by
  refine ⟨⟨_, _, rfl⟩, fun w1 hc => ?_⟩
  have hI := (ho.chgB hc).ints
  refine ⟨⟨_, _, 166, .agg #[.slice A l.length l.length], rfl, by kernel_rfl, enters_of Tryz.func166 (by kernel_rfl) rfl _ _, ?_⟩, [], by simp, ⟨_, _, 168, .agg #[.slice A l.length l.length], rfl, by kernel_rfl, enters_of Tryz.func168 (by kernel_rfl) rfl _ _, ?_⟩⟩
  · refine blobBytes_any A _ _ _ w1 hI (by rw [bytesOf_len, bk_size]) (by omega) (fun hA => ?_)
    subst hA
    rcases ho.2 with ⟨_, h⟩ | ⟨g, off, cap, cur, hv, _⟩
    · exact h
    · injection hv with h1; cases h1
  · exact linksBlob_any _ w1
def PAny (l : List UInt8) (w : World) (e : Ending) (w' : World) : Prop :=
  Below w.heap.size w w' ∧ ((∃ k : Int, (k == 0) = false ∧ e = .returned (.tuple #[.nilIface, .int .i64 k])) ∨ ∃ IF, e = .returned (.tuple #[IF, .int .i64 0]) ∧ ObjM w.heap.size w' IF l)
theorem parse_any (kd : Int) (A : Option Addr) (n c : Nat) (l : List UInt8) (w : World) (hE : EnvO w) (hI : Ints .u8 w A (bytesOf (bk l))) (hn : l.length = n) (hnc : n ≤ c) (hcm : c ≤ 9223372036854775807) (hs : n ≤ 1099511627775) (hA : A = none → n = 0) :
    Calls Tryz.prog 10 #[.int .i64 kd, .slice A n c] w (PAny l w) := by
  have hs2 : n ≤ 8796093022000 := by omega
  by_cases h1 : kd = 1
  · subst h1
    refine (parseCommit_any A n c l w hE hI hn hnc hcm hs2).mono ?_
    rintro e w1 ⟨hb, ⟨_, rfl⟩ | ⟨r, A2, hr, rfl, ho⟩⟩
    · exact ⟨hb, .inl ⟨3, by decide, rfl⟩⟩
    · exact ⟨hb, .inr ⟨_, rfl, objCommit hr ho (by omega)⟩⟩
  · by_cases h2 : kd = 2
    · subst h2
      refine (parseTree_any A n c l w hE hI hn hnc hcm hs2).mono ?_
      rintro e w1 ⟨hb, ⟨_, rfl⟩ | ⟨r, A2, hr, rfl, ho⟩⟩
      · exact ⟨hb, .inl ⟨3, by decide, rfl⟩⟩
      · exact ⟨hb, .inr ⟨_, rfl, objTree hr ho (by omega)⟩⟩
    · by_cases h3 : kd = 3
      · subst h3
        refine (parseBlob_any A n c l w hE hI hn hnc hcm hs2 hA).mono ?_
        rintro e w1 ⟨hb, A2, rfl, ho⟩
        exact ⟨hb, .inr ⟨_, rfl, objBlob ho (by omega)⟩⟩
      · by_cases h4 : kd = 4
        · subst h4
          refine (parseTag_any A n c l w hE hI hn hnc hcm hs2).mono ?_
          rintro e w1 ⟨hb, ⟨_, rfl⟩ | ⟨r, hr, rfl⟩⟩
          · exact ⟨hb, .inl ⟨3, by decide, rfl⟩⟩
          · exact ⟨hb, .inr ⟨_, rfl, objTag hr (by omega)⟩⟩
        · refine (parseNone_any kd _ w (by omega)).mono ?_
          rintro e w1 ⟨rfl, rfl⟩
          exact ⟨Below.refl _ _, .inl ⟨1, by decide, rfl⟩⟩
end Go.Proofs.YtdlabapfcghfmaaGreatDoor
namespace Go.Proofs.YtdlabapfcghfmaaGreatDoor
open Go.RowKit
set_option linter.unusedVariables false

def blW : List Int := [1651273570, 540016768, 0, 0, 0, 0, 0, 0, 0, 0, 0, 0, 0, 0, 0, 56, 3302547140, 1080033536, 112, 2310126985, 2160067072, 224, 325286675, 25166961, 2310126665, 2785473574, 50333698, 896, 1301146700, 100667828, 2943831215, 417059338, 2530403986, 2168457217, 909619441, 1053208822, 3202169532, 1668238248, 382105094, 50344386, 4262998754, 1661014850, 4151626490, 2377982017, 2118980154, 360744409, 1170077941, 3383620583, 2533081776, 846505601, 1818715809, 2380149598, 3360026627, 856764964, 1098587806, 3285336776, 1493963033, 996611641, 1293547858, 2581532606, 2443450859, 1145797265, 398743242, 1398676619, 3484917555, 638823001, 1959454455, 3511624687, 2098379358, 2156255509, 3187209541, 2918442057, 3058654426, 1923517750, 185189390, 1965560885, 329838739, 959641091, 558256402, 2519548945]
def blS : List (List Int) := [[1732584193, 4023233417, 2562383102, 271733878, 3285377520],
  [35719189, 1732584193, 2079550178, 2562383102, 271733878],
  [3405893677, 35719189, 1506887872, 2079550178, 2562383102],
  [3444229938, 3405893677, 1082671621, 1506887872, 2079550178],
  [3500086169, 3444229938, 1925215243, 1082671621, 1506887872],
  [150370714, 3500086169, 3008541132, 1925215243, 1082671621],
  [1814848617, 150370714, 1948763366, 3008541132, 1925215243],
  [100023191, 1814848617, 2185076326, 1948763366, 3008541132],
  [3704365867, 100023191, 1527453978, 2185076326, 1948763366],
  [3946463596, 3704365867, 3246231269, 1527453978, 2185076326],
  [123166669, 3946463596, 4147316938, 3246231269, 1527453978],
  [2213616412, 123166669, 986615899, 4147316938, 3246231269],
  [2357820505, 2213616412, 1104533491, 986615899, 4147316938],
  [482648295, 2357820505, 553404103, 1104533491, 986615899],
  [1874980538, 482648295, 1663196950, 553404103, 1104533491],
  [3033427679, 1874980538, 3341887545, 1663196950, 553404103],
  [1550833098, 3033427679, 2616228782, 3341887545, 1663196950],
  [3832142700, 1550833098, 3979582391, 2616228782, 3341887545],
  [3204631572, 3832142700, 2535191922, 3979582391, 2616228782],
  [1676167745, 3204631572, 958035675, 2535191922, 3979582391],
  [2274136183, 1676167745, 801157893, 958035675, 2535191922],
  [3984228770, 2274136183, 1492783760, 801157893, 958035675],
  [1207617947, 3984228770, 3789759517, 1492783760, 801157893],
  [96142416, 1207617947, 3143540840, 3789759517, 1492783760],
  [2650528400, 96142416, 3523129958, 3143540840, 3789759517],
  [151336056, 2650528400, 24035604, 3523129958, 3143540840],
  [1045543186, 151336056, 662632100, 24035604, 3523129958],
  [1025821720, 1045543186, 37834014, 662632100, 24035604],
  [810563044, 1025821720, 2408869444, 37834014, 662632100],
  [2665445977, 810563044, 256455430, 2408869444, 37834014],
  [60292684, 2665445977, 202640761, 256455430, 2408869444],
  [3194467386, 60292684, 1740103318, 202640761, 256455430],
  [3425281451, 3194467386, 15073171, 1740103318, 202640761],
  [1881877092, 3425281451, 2946100494, 15073171, 1740103318],
  [3230455292, 1881877092, 4077545834, 2946100494, 15073171],
  [3830122941, 3230455292, 470469273, 4077545834, 2946100494],
  [371734384, 3830122941, 807613823, 470469273, 4077545834],
  [2922083364, 371734384, 2031272559, 807613823, 470469273],
  [316425943, 2922083364, 92933596, 2031272559, 807613823],
  [3825216927, 316425943, 730520841, 92933596, 2031272559],
  [2815371728, 3825216927, 3300331957, 730520841, 92933596],
  [1898272075, 2815371728, 4177529703, 3300331957, 730520841],
  [668557450, 1898272075, 703842932, 4177529703, 3300331957],
  [3214210614, 668557450, 3695793490, 703842932, 4177529703],
  [911273901, 3214210614, 2314623010, 3695793490, 703842932],
  [2672747362, 911273901, 2951036301, 2314623010, 3695793490],
  [448168455, 2672747362, 1301560299, 2951036301, 2314623010],
  [1164217025, 448168455, 2815670488, 1301560299, 2951036301],
  [3302424899, 1164217025, 3333267585, 2815670488, 1301560299],
  [3597765808, 3302424899, 1364796080, 3333267585, 2815670488],
  [4235383504, 3597765808, 4046831696, 1364796080, 3333267585],
  [570203853, 4235383504, 899441452, 4046831696, 1364796080],
  [2736500446, 570203853, 1058845876, 899441452, 4046831696],
  [3786014639, 2736500446, 1216292787, 1058845876, 899441452],
  [1479077598, 3786014639, 2831608759, 1216292787, 1058845876],
  [4257307568, 1479077598, 4167729131, 2831608759, 1216292787],
  [1275301237, 4257307568, 2517253047, 4167729131, 2831608759],
  [229303304, 1275301237, 1064326892, 2517253047, 4167729131],
  [2521560054, 229303304, 1392567133, 1064326892, 2517253047],
  [1524586243, 2521560054, 57325826, 1392567133, 1064326892],
  [3617650503, 1524586243, 2777873661, 57325826, 1392567133],
  [2672671508, 3617650503, 3602372032, 2777873661, 57325826],
  [2690004598, 2672671508, 4125638097, 3602372032, 2777873661],
  [1318270838, 2690004598, 668167877, 4125638097, 3602372032],
  [961349708, 1318270838, 2819984797, 668167877, 4125638097],
  [2063170703, 961349708, 2477051357, 2819984797, 668167877],
  [2054534383, 2063170703, 240337427, 2477051357, 2819984797],
  [487114650, 2054534383, 3737018147, 240337427, 2477051357],
  [2064142532, 487114650, 3734859067, 3737018147, 240337427],
  [3556691032, 2064142532, 2269262310, 3734859067, 3737018147],
  [3428290881, 3556691032, 516035633, 2269262310, 3734859067],
  [1013593630, 3428290881, 889172758, 516035633, 2269262310],
  [1934217778, 1013593630, 1930814544, 889172758, 516035633],
  [2217663111, 1934217778, 2400882055, 1930814544, 889172758],
  [2267746039, 2217663111, 2631038092, 2400882055, 1930814544],
  [3318377648, 2267746039, 3775641249, 2631038092, 2400882055],
  [2196096644, 3318377648, 3788161981, 3775641249, 2631038092],
  [2627866929, 2196096644, 829594412, 3788161981, 3775641249],
  [3410047682, 2627866929, 549024161, 829594412, 3788161981],
  [3271830202, 3410047682, 1730708556, 549024161, 829594412],
  [2136522650, 3271830202, 2999995568, 1730708556, 549024161]]
def blM : List Int := [98, 108, 111, 98, 32, 48, 0, 128, 0, 0, 0, 0, 0, 0, 0, 0, 0, 0, 0, 0, 0, 0, 0, 0, 0, 0, 0, 0, 0, 0, 0, 0, 0, 0, 0, 0, 0, 0, 0, 0, 0, 0, 0, 0, 0, 0, 0, 0, 0, 0, 0, 0, 0, 0, 0, 0, 0, 0, 0, 0, 0, 0, 0, 56]
def blokW (t : Nat) : Bool := blW.getD t 0 == if t < 16 then wordAt blM t else nextW blW t
def blokS (t : Nat) : Bool := blS.getD (t + 1) [] == h5L (stepW (blW.getD t 0) t (h5of (blS.getD t [])))
theorem blokW_all : (List.range 80).all blokW = true := by decide +kernel
theorem blokS_all : (List.range 80).all blokS = true := by decide +kernel
theorem blW_len : blW.length = 80 := by decide
theorem bl_sched (t : Nat) (h : t ≤ 80) : schedTo blM t = blW.take t := by
  induction t with
  | zero => rfl
  | succ t ih =>
    have hk := List.all_eq_true.1 blokW_all t (List.mem_range.2 (by omega))
    have hk := eq_of_beq hk
    rw [schedTo, ih (by omega), List.take_succ_eq_append_getElem (by rw [blW_len]; omega)]
    congr 2
    rw [List.getD_eq_getElem?_getD, List.getElem?_eq_getElem (by rw [blW_len]; omega), Option.getD_some] at hk
    rw [hk]
    by_cases h16 : t < 16
    · rw [if_pos h16, if_pos h16]
    · rw [if_neg h16, if_neg h16]
      have e : ∀ j, j < t → (blW.take t).getD j 0 = blW.getD j 0 := fun j hj => by
        rw [List.getD_eq_getElem?_getD, List.getD_eq_getElem?_getD, List.getElem?_take_of_lt hj]
      unfold nextW
      rw [e _ (by omega), e _ (by omega), e _ (by omega), e _ (by omega)]
theorem bl_run (t : Nat) (h : t ≤ 80) : runH blM h0 t = h5of (blS.getD t []) := by
  induction t with
  | zero => rfl
  | succ t ih =>
    have hk := List.all_eq_true.1 blokS_all t (List.mem_range.2 (by omega))
    have hk := eq_of_beq hk
    rw [hk, h5of_L, runH, ih (by omega)]
    unfold stepH stepW
    rw [bl_sched 80 (Nat.le_refl _), List.take_of_length_le (Nat.le_of_eq blW_len)]
theorem bl_mix : mixH h0 blM = ⟨3869106843, 3000096323, 1267411374, 2002442434, 3834401681⟩ := by
  unfold mixH
  rw [bl_run 80 (Nat.le_refl _)]
  have e : ∀ a b c d e a' b' c' d' e' : Int, a = a' → b = b' → c = c' → d = d' → e = e' → H5.mk a b c d e = H5.mk a' b' c' d' e' := by
    intro a b c d e a' b' c' d' e' h1 h2 h3 h4 h5; rw [h1, h2, h3, h4, h5]
  exact e _ _ _ _ _ _ _ _ _ _ (by decide +kernel) (by decide +kernel) (by decide +kernel) (by decide +kernel) (by decide +kernel)
theorem bl_msg : shaMsg [98, 108, 111, 98, 32, 48, 0] 7 = blM := by decide +kernel
theorem bl_sha : shaAll [98, 108, 111, 98, 32, 48, 0] = [230, 157, 226, 155, 178, 209, 214, 67, 75, 139, 41, 174, 119, 90, 216, 194, 228, 140, 83, 145] := by
  rw [shaAll_eq]
  show shaTo (fb ((shaMsg [98, 108, 111, 98, 32, 48, 0] 7).length / 64) h0 (shaMsg [98, 108, 111, 98, 32, 48, 0] 7)) 5 = _
  rw [bl_msg, show blM.length / 64 = 1 from by decide]
  show shaTo (mixH h0 blM) 5 = _
  rw [bl_mix]
  decide +kernel
theorem bl_hex : hexL [230, 157, 226, 155, 178, 209, 214, 67, 75, 139, 41, 174, 119, 90, 216, 194, 228, 140, 83, 145] = [101, 54, 57, 100, 101, 50, 57, 98, 98, 50, 100, 49, 100, 54, 52, 51, 52, 98, 56, 98, 50, 57, 97, 101, 55, 55, 53, 97, 100, 56, 99, 50, 101, 52, 56, 99, 53, 51, 57, 49] := by decide +kernel
theorem bl_head : headL 3 0 = [98, 108, 111, 98, 32, 48, 0] := by
  unfold headL
  rw [digL_small (by decide)]
  decide
theorem bl_id : strOfNums (hexL (shaAll (headL 3 0 ++ []))) = ⟨#[101, 54, 57, 100, 101, 50, 57, 98, 98, 50, 100, 49, 100, 54, 52, 51, 52, 98, 56, 98, 50, 57, 97, 101, 55, 55, 53, 97, 100, 56, 99, 50, 101, 52, 56, 99, 53, 51, 57, 49]⟩ := by
  rw [List.append_nil, bl_head, bl_sha, bl_hex]
  kernel_rfl
def trW : List Int := [1953654117, 540016768, 0, 0, 0, 0, 0, 0, 0, 0, 0, 0, 0, 0, 0, 56, 3907308234, 1080033536, 112, 3519649173, 2160067072, 224, 2744331051, 25166961, 3519648853, 3353760855, 50333698, 896, 2387389614, 100667828, 2532295874, 2673431503, 2119868086, 2168457217, 959624058, 1596330119, 1488919304, 2103790782, 1999033975, 50344386, 2750192831, 1661014850, 1862028329, 4120198169, 1178255436, 360744409, 3557646388, 3058128000, 3792202069, 3537164256, 1919771063, 1807487722, 1995421095, 856764964, 3606474796, 1095993167, 940775374, 627904815, 938530106, 1735752137, 2204764641, 1313631375, 252444937, 1297357725, 3430213447, 638823001, 4232852846, 3881401473, 180407398, 2156255509, 224408788, 1196720950, 2250635596, 3537366230, 520410374, 2425037078, 2833404080, 959641091, 3173508888, 165856389]
def trS : List (List Int) := [[1732584193, 4023233417, 2562383102, 271733878, 3285377520],
  [338099736, 1732584193, 2079550178, 2562383102, 271733878],
  [197169295, 338099736, 1506887872, 2079550178, 2562383102],
  [3877679450, 197169295, 84524934, 1506887872, 2079550178],
  [194898077, 3877679450, 3270517795, 84524934, 1506887872],
  [3929670784, 194898077, 3116903510, 3270517795, 84524934],
  [1890907506, 3929670784, 1122466343, 3116903510, 3270517795],
  [2280879200, 1890907506, 982417696, 1122466343, 3116903510],
  [1166064932, 2280879200, 2620210524, 982417696, 1122466343],
  [162483592, 1166064932, 570219800, 2620210524, 982417696],
  [1688750354, 162483592, 291516233, 570219800, 2620210524],
  [2905175641, 1688750354, 40620898, 291516233, 570219800],
  [857114929, 2905175641, 2569671236, 40620898, 291516233],
  [1511940714, 857114929, 1800035734, 2569671236, 40620898],
  [1273279898, 1511940714, 1288020556, 1800035734, 2569671236],
  [3649535746, 1273279898, 2525468826, 1288020556, 1800035734],
  [4248980128, 3649535746, 2465803622, 2525468826, 1288020556],
  [3472353384, 4248980128, 3059867584, 2465803622, 2525468826],
  [3344994322, 3472353384, 1062245032, 3059867584, 2465803622],
  [400441711, 3344994322, 868088346, 1062245032, 3059867584],
  [430354314, 400441711, 2983732228, 868088346, 1062245032],
  [4185657597, 430354314, 3321335899, 2983732228, 868088346],
  [1067655727, 4185657597, 2255072226, 3321335899, 2983732228],
  [1938533371, 1067655727, 2120156223, 2255072226, 3321335899],
  [1868336589, 1938533371, 3488139403, 2120156223, 2255072226],
  [1960529108, 1868336589, 3705858814, 3488139403, 2120156223],
  [3437203069, 1960529108, 1540825971, 3705858814, 3488139403],
  [3517124928, 3437203069, 490132277, 1540825971, 3705858814],
  [173899892, 3517124928, 1933042591, 490132277, 1540825971],
  [1682959405, 173899892, 879281232, 1933042591, 490132277],
  [1762721265, 1682959405, 43474973, 879281232, 1933042591],
  [3989936783, 1762721265, 1494481675, 43474973, 879281232],
  [795065508, 3989936783, 1514422140, 1494481675, 43474973],
  [3402227185, 795065508, 4218709667, 1514422140, 1494481675],
  [817730145, 3402227185, 198766377, 4218709667, 1514422140],
  [1416134456, 817730145, 1924298620, 198766377, 4218709667],
  [2690339849, 1416134456, 1278174360, 1924298620, 198766377],
  [1238492130, 2690339849, 354033614, 1278174360, 1924298620],
  [2459720579, 1238492130, 1746326786, 354033614, 1278174360],
  [3130572880, 2459720579, 2457106680, 1746326786, 354033614],
  [1124810177, 3130572880, 3836155616, 2457106680, 1746326786],
  [2939893685, 1124810177, 782643220, 3836155616, 2457106680],
  [3533665419, 2939893685, 1354944368, 782643220, 3836155616],
  [1699735699, 3533665419, 1808715245, 1354944368, 782643220],
  [2955086174, 1699735699, 4104641826, 1808715245, 1354944368],
  [2420786705, 2955086174, 3646159396, 4104641826, 1808715245],
  [165129210, 2420786705, 2886255191, 3646159396, 4104641826],
  [722549640, 165129210, 1678938500, 2886255191, 3646159396],
  [2901475419, 722549640, 2188765950, 1678938500, 2886255191],
  [3713970057, 2901475419, 180637410, 2188765950, 1678938500],
  [4241384053, 3713970057, 3946594326, 180637410, 2188765950],
  [3911689938, 4241384053, 2002234338, 3946594326, 180637410],
  [703552379, 3911689938, 2134087837, 2002234338, 3946594326],
  [2926234832, 703552379, 3125406132, 2134087837, 2002234338],
  [1112149684, 2926234832, 3397113566, 3125406132, 2134087837],
  [3639830785, 1112149684, 731558708, 3397113566, 3125406132],
  [4085310670, 3639830785, 278037421, 731558708, 3397113566],
  [442099851, 4085310670, 1983699520, 278037421, 731558708],
  [2649838958, 442099851, 3168811315, 1983699520, 278037421],
  [3561143193, 2649838958, 3331750434, 3168811315, 1983699520],
  [2450914625, 3561143193, 2809943387, 3331750434, 3168811315],
  [51724796, 2450914625, 1964027622, 2809943387, 3331750434],
  [2187783939, 51724796, 1686470480, 1964027622, 2809943387],
  [3762915572, 2187783939, 12931199, 1686470480, 1964027622],
  [2082433825, 3762915572, 3768171456, 12931199, 1686470480],
  [2136993767, 2082433825, 940728893, 3768171456, 12931199],
  [2177789049, 2136993767, 1594350280, 940728893, 3768171456],
  [4183857478, 2177789049, 3755473913, 1594350280, 940728893],
  [385881787, 4183857478, 1618189086, 3755473913, 1594350280],
  [1525889543, 385881787, 3193448017, 1618189086, 3755473913],
  [1381204931, 1525889543, 3317695918, 3193448017, 1618189086],
  [2752652330, 1381204931, 3602697857, 3317695918, 3193448017],
  [2474850717, 2752652330, 3566526704, 3602697857, 3317695918],
  [753532637, 2474850717, 2835646730, 3566526704, 3602697857],
  [4283083065, 753532637, 1692454503, 2835646730, 3566526704],
  [2287950011, 4283083065, 1262124983, 1692454503, 2835646730],
  [3765279824, 2287950011, 2144512590, 1262124983, 1692454503],
  [2727409739, 3765279824, 3793212974, 2144512590, 1262124983],
  [513286452, 2727409739, 941319956, 3793212974, 2144512590],
  [1392362288, 513286452, 3903077906, 941319956, 3793212974],
  [3829217989, 1392362288, 128321613, 3903077906, 941319956]]
def trM : List Int := [116, 114, 101, 101, 32, 48, 0, 128, 0, 0, 0, 0, 0, 0, 0, 0, 0, 0, 0, 0, 0, 0, 0, 0, 0, 0, 0, 0, 0, 0, 0, 0, 0, 0, 0, 0, 0, 0, 0, 0, 0, 0, 0, 0, 0, 0, 0, 0, 0, 0, 0, 0, 0, 0, 0, 0, 0, 0, 0, 0, 0, 0, 0, 56]
def trokW (t : Nat) : Bool := trW.getD t 0 == if t < 16 then wordAt trM t else nextW trW t
def trokS (t : Nat) : Bool := trS.getD (t + 1) [] == h5L (stepW (trW.getD t 0) t (h5of (trS.getD t [])))
theorem trokW_all : (List.range 80).all trokW = true := by decide +kernel
theorem trokS_all : (List.range 80).all trokS = true := by decide +kernel
theorem trW_len : trW.length = 80 := by decide
theorem tr_sched (t : Nat) (h : t ≤ 80) : schedTo trM t = trW.take t := by
  induction t with
  | zero => rfl
  | succ t ih =>
    have hk := List.all_eq_true.1 trokW_all t (List.mem_range.2 (by omega))
    have hk := eq_of_beq hk
    rw [schedTo, ih (by omega), List.take_succ_eq_append_getElem (by rw [trW_len]; omega)]
    congr 2
    rw [List.getD_eq_getElem?_getD, List.getElem?_eq_getElem (by rw [trW_len]; omega), Option.getD_some] at hk
    rw [hk]
    by_cases h16 : t < 16
    · rw [if_pos h16, if_pos h16]
    · rw [if_neg h16, if_neg h16]
      have e : ∀ j, j < t → (trW.take t).getD j 0 = trW.getD j 0 := fun j hj => by
        rw [List.getD_eq_getElem?_getD, List.getD_eq_getElem?_getD, List.getElem?_take_of_lt hj]
      unfold nextW
      rw [e _ (by omega), e _ (by omega), e _ (by omega), e _ (by omega)]
theorem tr_run (t : Nat) (h : t ≤ 80) : runH trM h0 t = h5of (trS.getD t []) := by
  induction t with
  | zero => rfl
  | succ t ih =>
    have hk := List.all_eq_true.1 trokS_all t (List.mem_range.2 (by omega))
    have hk := eq_of_beq hk
    rw [hk, h5of_L, runH, ih (by omega)]
    unfold stepH stepW
    rw [tr_sched 80 (Nat.le_refl _), List.take_of_length_le (Nat.le_of_eq trW_len)]
theorem tr_mix : mixH h0 trM = ⟨1266834886, 1120628409, 2690704715, 4174811784, 4226697476⟩ := by
  unfold mixH
  rw [tr_run 80 (Nat.le_refl _)]
  have e : ∀ a b c d e a' b' c' d' e' : Int, a = a' → b = b' → c = c' → d = d' → e = e' → H5.mk a b c d e = H5.mk a' b' c' d' e' := by
    intro a b c d e a' b' c' d' e' h1 h2 h3 h4 h5; rw [h1, h2, h3, h4, h5]
  exact e _ _ _ _ _ _ _ _ _ _ (by decide +kernel) (by decide +kernel) (by decide +kernel) (by decide +kernel) (by decide +kernel)
theorem tr_msg : shaMsg [116, 114, 101, 101, 32, 48, 0] 7 = trM := by decide +kernel
theorem tr_sha : shaAll [116, 114, 101, 101, 32, 48, 0] = [75, 130, 93, 198, 66, 203, 110, 185, 160, 96, 229, 75, 248, 214, 146, 136, 251, 238, 73, 4] := by
  rw [shaAll_eq]
  show shaTo (fb ((shaMsg [116, 114, 101, 101, 32, 48, 0] 7).length / 64) h0 (shaMsg [116, 114, 101, 101, 32, 48, 0] 7)) 5 = _
  rw [tr_msg, show trM.length / 64 = 1 from by decide]
  show shaTo (mixH h0 trM) 5 = _
  rw [tr_mix]
  decide +kernel
theorem tr_hex : hexL [75, 130, 93, 198, 66, 203, 110, 185, 160, 96, 229, 75, 248, 214, 146, 136, 251, 238, 73, 4] = [52, 98, 56, 50, 53, 100, 99, 54, 52, 50, 99, 98, 54, 101, 98, 57, 97, 48, 54, 48, 101, 53, 52, 98, 102, 56, 100, 54, 57, 50, 56, 56, 102, 98, 101, 101, 52, 57, 48, 52] := by decide +kernel
theorem tr_head : headL 2 0 = [116, 114, 101, 101, 32, 48, 0] := by
  unfold headL
  rw [digL_small (by decide)]
  decide
theorem tr_id : strOfNums (hexL (shaAll (headL 2 0 ++ []))) = ⟨#[52, 98, 56, 50, 53, 100, 99, 54, 52, 50, 99, 98, 54, 101, 98, 57, 97, 48, 54, 48, 101, 53, 52, 98, 102, 56, 100, 54, 57, 50, 56, 56, 102, 98, 101, 101, 52, 57, 48, 52]⟩ := by
  rw [List.append_nil, tr_head, tr_sha, tr_hex]
  kernel_rfl
end Go.Proofs.YtdlabapfcghfmaaGreatDoor
namespace Go.Proofs.YtdlabapfcghfmaaGreatDoor
open Go.RowKit
set_option linter.unusedVariables false
set_option linter.unusedSimpArgs false

theorem awk_kind : kindN ⟨#[116, 114, 101, 101]⟩ = 2 := by
  refine kindN_at _ 2 (by decide) (by decide) (fun j h1 h2 => ?_) (by kernel_rfl)
  obtain rfl : j = 1 := by omega
  kernel_rfl
theorem awk_head : (strOfNums (headL 4 7)).toList = [116, 97, 103, 32, 55, 0] := by
  unfold headL
  rw [digL_small (by decide)]
  kernel_rfl
theorem awk_blob : (oidS 3 []).toList = [101, 54, 57, 100, 101, 50, 57, 98, 98, 50, 100, 49, 100, 54, 52, 51, 52, 98, 56, 98, 50, 57, 97, 101, 55, 55, 53, 97, 100, 56, 99, 50, 101, 52, 56, 99, 53, 51, 57, 49] := by
  unfold oidS
  rw [show ((3 : Int)) = 3 from rfl, show ([] : List Int).length = 0 from rfl, bl_id]
  kernel_rfl
theorem awk_tree : (oidS 2 []).toList = [52, 98, 56, 50, 53, 100, 99, 54, 52, 50, 99, 98, 54, 101, 98, 57, 97, 48, 54, 48, 101, 53, 52, 98, 102, 56, 100, 54, 57, 50, 56, 56, 102, 98, 101, 101, 52, 57, 48, 52] := by
  unfold oidS
  rw [show ([] : List Int).length = 0 from rfl, tr_id]
  kernel_rfl
set_option maxRecDepth 100000 in
set_option maxHeartbeats 4000000 in
theorem awake8_any (w : World) (hE : EnvO w) : Calls Tryz.prog 13 #[] w fun e w' => e = .returned (.bool true) ∧ Below w.heap.size w w' := by
  have HE := Lib.hid hE
  have HK := Lib.hid (fun w => kind_any ⟨#[116, 114, 101, 101]⟩ w)
  unfold KindPost at HK
  rw [awk_kind] at HK
  have hb : (oidS 3 []).toList == [101, 54, 57, 100, 101, 50, 57, 98, 98, 50, 100, 49, 100, 54, 52, 51, 52, 98, 56, 98, 50, 57, 97, 101, 55, 55, 53, 97, 100, 56, 99, 50, 101, 52, 56, 99, 53, 51, 57, 49] := by rw [awk_blob]; decide
  have ht : (oidS 2 []).toList == [52, 98, 56, 50, 53, 100, 99, 54, 52, 50, 99, 98, 54, 101, 98, 57, 97, 48, 54, 48, 101, 53, 52, 98, 102, 56, 100, 54, 57, 50, 56, 56, 102, 98, 101, 101, 52, 57, 48, 52] := by rw [awk_tree]; decide
  have hh : (strOfNums (headL 4 7)).toList == [116, 97, 103, 32, 55, 0] := by rw [awk_head]; decide
  have HB := Lib.hid (fun w hE => oid_any 3 none 0 0 [] w hE .nil rfl (fun x hx => by cases hx) (by decide))
  have HT := Lib.hid (fun w hE => oid_any 2 none 0 0 [] w hE .nil rfl (fun x hx => by cases hx) (by decide))
  have HH := Lib.hid (fun w hE => head_any 4 7 w hE (by decide))
  have HP1 := Lib.hid (fun w hE => person_any ⟨#[65, 32, 60, 97, 62, 32, 49, 32, 43, 48, 48, 48, 48]⟩ w hE (by decide))
  have HP2 := Lib.hid (fun w hE => person_any ⟨#[65, 32, 60, 97, 62, 32, 48, 49, 32, 43, 48, 48, 48, 48]⟩ w hE (by decide))
  unfold PersPost at HP1 HP2
  rw [pers_ex.1] at HP1
  rw [pers_ex.2] at HP2
  clear hE
  generalize oidS 3 [] = S3 at *
  generalize oidS 2 [] = S2 at *
  generalize headL 4 7 = HL at *
  generalize hSL : strOfNums HL = SL at *
  have HSL := Lib.hid hSL
  clear hSL
  go_enter Tryz.func13, Tryz.ntmps13
  go_wp2_with fail
  refine (HK.out w).mono ?_
  rintro e w1 ⟨rfl, hb1⟩
  have HB1 := Lib.hid hb1
  clear hb1 HK
  go_wp2_with fail
  refine (HB.out w1 (HE.out.below HB1.out)).mono ?_
  rintro e w2 ⟨rfl, hb2⟩
  have HB2 := Lib.hid (HB1.out.trans (hb2.mono HB1.out.size))
  clear hb2 HB
  go_wp2_with fail
  refine (HT.out w2 (HE.out.below HB2.out)).mono ?_
  rintro e w3 ⟨rfl, hb3⟩
  have HB3 := Lib.hid (HB2.out.trans (hb3.mono HB2.out.size))
  clear hb3 HT
  go_wp2_with fail
  refine (HP1.out w3 (HE.out.below HB3.out)).mono ?_
  rintro e w4 ⟨rfl, hb4⟩
  have HB4 := Lib.hid (HB3.out.trans (hb4.mono HB3.out.size))
  clear hb4 HP1
  go_wp2_with fail
  refine (HP2.out w4 (HE.out.below HB4.out)).mono ?_
  rintro e w5 ⟨rfl, hb5⟩
  have HB5 := Lib.hid (HB4.out.trans (hb5.mono HB4.out.size))
  clear hb5 HP2
  go_wp2_with fail
  refine (HH.out w5 (HE.out.below HB5.out)).mono ?_
  rintro e w6 ⟨A, c, rfl, hI, hb6⟩
  have HB6 := Lib.hid (HB5.out.trans (hb6.mono HB5.out.size))
  have hcv := run_str_ints (P := Tryz.prog) 24 9 5 Tryz.underlying24 Tryz.underlying5 Tryz.underlying9 A c HL hI
  rw [HSL.out] at hcv
  clear hb6 HH hI
  go_wp2
  go_ret
  exact ⟨rfl, HB6.out⟩
end Go.Proofs.YtdlabapfcghfmaaGreatDoor
namespace Go.Proofs.YtdlabapfcghfmaaGreatDoor
open Go.RowKit
set_option linter.unusedVariables false
set_option linter.unusedSimpArgs false

theorem OwnS.lowB {w w' : World} {base : Nat} {e : TypeId} {size n : Nat} {v : Value} {xs : List Value} (h : OwnS w base e size v n xs) (hb : Below w.heap.size w w') : OwnS w' base e size v n xs :=
  h.chg (S := fun _ => False) (Chg.of_below hb) fun _ _ h => h
theorem ints_set {ys : List Int} {k : Nat} {z : Int} : (ys.map (Value.int .u8)).set k (.int .u8 z) = (ys.set k z).map (Value.int .u8) := by rw [List.map_set]
set_option maxRecDepth 100000 in
set_option maxHeartbeats 8000000 in
theorem lent_any (kd : Int) (A : Option Addr) (n c : Nat) (l : List UInt8) (xs : List Int) (w : World) (hE : EnvO w) (hx : bytesOf (bk l) = xs) (hI : Ints .u8 w A xs) (hn : xs.length = n) (hs : n ≤ 1099511627770) :
    Calls Tryz.prog 6 #[.int .i64 kd, .slice A n c] w fun e w' => e = .returned (.bool true) ∧ Below w.heap.size w w' := by
  obtain ⟨i0, hi, hz0, hz1, hz2⟩ := info_parts Tryz.info_u8
  have hcv : ∀ (W : World) (A : Option Addr) (c : Nat), Ints .u8 W A xs → (convert 24 9 (.slice A n c)).run Tryz.prog W = .ok (.string (strOfNums xs)) W := fun W A c h => by
    have := run_str_ints (P := Tryz.prog) (w := W) 24 9 5 Tryz.underlying24 Tryz.underlying5 Tryz.underlying9 A c xs h
    rw [hn] at this
    exact this
  have hln : l.length = n := by rw [← hn, ← hx, bytesOf_len, bk_size]
  have HCV := Lib.hid hcv
  have HP := Lib.hid (fun (W : World) (A : Option Addr) (c : Nat) (hE : EnvO W) (hI : Ints .u8 W A xs) (hnc : n ≤ c) (hcm : c ≤ 9223372036854775807) (hA : A = none → n = 0) => parse_any kd A n c l W hE (by rw [hx]; exact hI) hln hnc hcm (by omega) hA)
  have HX := Lib.hid hx
  have HN := Lib.hid hn
  have HI := Lib.hid hI
  have HE := Lib.hid hE
  have cv0 := hcv w A c hI
  have hw0 : Below w.heap.size w (w.alloc (.cells #[] 5)) := (Below.refl _ _).alloc (Nat.le_refl _) _
  have HSR := Lib.hid (Src.ints (P := Tryz.prog) (c := c) (hI.below hw0))
  rw [hn] at HSR
  clear hcv hx hn hI hE hln
  go_enter Tryz.func6, Tryz.ntmps6
  go_upto_region 3 with (at_builtin; first
    | (have hm5 := HB5; go_loud (refine wpList_append_S rfl (.tmp 18) (.tmp 19) 24 24 rfl i0 (.int .u8 0) 1 (.slice 5) Tryz.underlying24 Tryz.underlying24 (fun _ h => by cases h) hi hz0 hz1 hz2 rfl rfl rfl (HO5.out.alloc _) (Src.new (us := [.int .u8 77]) rfl (by simp [Value.oneCell'])) (show n + 1 ≤ maxLen by unfold maxLen; omega) (show (n + 1) * 1 ≤ 140737488355328 by omega) HB5.out.size ?_); intro A6 c6 w6 ho6 hg6 hw6)
    | (go_loud (refine wpList_append_S rfl (.tmp 16) (.tmp 17) 24 24 rfl i0 (.int .u8 0) 1 (.slice 5) Tryz.underlying24 Tryz.underlying24 (fun _ h => by cases h) hi hz0 hz1 hz2 rfl rfl rfl (OwnS.empty (base := w.heap.size) (c := 0) (Nat.le_refl _) (heap_alloc_new w _) (by decide) (by simp)) HSR.out ?_ ?_ ?_ ?_; (unfold maxLen; omega); omega; (simp); intro A5 c5 w5 ho5 hg5 hw5); have HO5 : Hid (OwnS w5 w.heap.size 5 1 (.slice A5 n c5) n (xs.map (Value.int .u8))) := Lib.hid (by rw [Nat.zero_add, List.nil_append] at ho5; exact ho5); have HB5 := Lib.hid ((hw0.grown hg5 (by simp) (fun k h => by injection h with h; exact Nat.le_of_eq h)).alloc (by have := (hw0.grown hg5 (by simp) (fun k h => by injection h with h; exact Nat.le_of_eq h)).size; omega) (.cells #[.int .u8 77] 5))))
  have HO6 : Hid (OwnS w6 w.heap.size 5 1 (.slice A6 (n + 1) c6) (n + 1) ((xs ++ [77]).map (Value.int .u8))) := Lib.hid (by rw [List.map_append]; exact ho6)
  have HB6 := Lib.hid (HB5.out.grown hg6 HB5.out.size (fun j hj => (HO5.out.lt j hj).1))
  clear ho5 ho6 hg5 hg6 hw5 hw6 HSR HO5 HB5 hw0
  have hlen6 : ((xs ++ [77]).map (Value.int .u8)).length = n + 1 := by simp; exact HN.out
  obtain ⟨g, off, c', hv, hbg, hgs, hcells⟩ := HO6.out.cells (by rw [hlen6]; omega)
  injection hv with hA _ hc'
  subst hA; subst hc'
  have hc6 := HO6.out.cap
  have hcm6 := HO6.out.capm
  have HI6 : Hid (Ints .u8 w6 (some ⟨g, off, none⟩) xs) := Lib.hid (by
    intro hl
    obtain ⟨b, o, h1, h2, h3⟩ := HO6.out.ints (by rw [List.length_append]; omega)
    refine ⟨b, o, h1, h2, fun j hj => ?_⟩
    rw [h3 j (by rw [List.length_append]; omega), List.getD_eq_getElem?_getD, List.getD_eq_getElem?_getD, List.getElem?_append_left hj])
  have HE6 := Lib.hid (HE.out.below HB6.out)
  have HBG := Lib.hid hbg
  have HGS := Lib.hid hgs
  clear hlen6 hcells hbg hgs
  have nc6 : n ≤ c6 := by omega
  go_wp2_with fail
  refine (HP.out w6 (some ⟨g, off, none⟩) c6 HE6.out HI6.out nc6 hcm6 (fun h => by cases h)).mono ?_
  rintro e w3 ⟨hb3, ⟨k, hk, rfl⟩ | ⟨IF, rfl, hobj⟩⟩
  · have hbb := HB6.out.trans (hb3.mono HB6.out.size)
    have cv3 := HCV.out w3 A c (HI.out.below hbb)
    have ho3 := HO6.out.lowB hb3
    have r77 : w3.cell? ⟨g, off + n, none⟩ = some (.int .u8 77) := by
      have hh := ho3.cells (by simp)
      obtain ⟨g2, off2, c2, hv2, _, _, hh2⟩ := hh
      injection hv2 with hA2
      injection hA2 with hA2
      injection hA2 with h1 h2
      subst h1; subst h2
      rw [hh2 n (by simp; rw [HN.out]; omega), List.getElem?_map, List.getElem?_append_right (by rw [HN.out]; exact Nat.le_refl _), HN.out, Nat.sub_self]
      rfl
    have HE3 := Lib.hid (HE.out.below hbb)
    have HBB := Lib.hid hbb
    clear hb3 hbb ho3
    go_wp2_with (go_at_call 13; refine (awake8_any w3 HE3.out).mono ?_; rintro e w9 ⟨rfl, hb9⟩)
    go_ret
    exact ⟨rfl, HBB.out.trans (hb9.mono HBB.out.size)⟩
  · obtain ⟨⟨t, v, rfl⟩, hob⟩ := hobj
    have HB3 := Lib.hid hb3
    have HOB := Lib.hid hob
    have m3 := (hob w3 (Chg.refl _ _)).1
    have hx2 : (bytesOf (bk l)) = xs := HX.out
    rw [hx2] at m3
    unfold BytesPost at m3
    rw [HN.out] at m3
    have HM3 := Lib.hid m3
    clear hb3 hob m3 hx2
    go_upto_region 9 with (refine wpList_invoke rfl (.tmp 49) "Bytes" rfl _ rfl _ HM3.out ?_; rintro e w4 ⟨A4, rfl, ho4, hb4⟩; refine ⟨_, rfl, ?_⟩; have HO4 := Lib.hid ho4; have HB4 := Lib.hid hb4; clear ho4 hb4)
    go_wp2
    go_loopw [10] (fun vi wr => ∃ k : Nat, vi = .int .i64 k ∧ k ≤ n ∧ (∃ ys : List Int, ys.length = n ∧ OwnS wr w3.heap.size 5 1 (.slice A4 n n) n (ys.map (Value.int .u8))) ∧ Below w3.heap.size w3 wr) (fun vi _ => n - (intOf vi).toNat)
    case atStart => exact ⟨0, rfl, Nat.zero_le _, ⟨xs, HN.out, HO4.out⟩, HB4.out⟩
    case round =>
      clear HO4 HB4
      obtain ⟨k, rfl, hk, ⟨ys, hy, ho⟩, hb⟩ := hrel
      by_cases hlt : k < n
      · have hyl : (ys.map (Value.int .u8)).length = n := by rw [List.length_map]; exact hy
        obtain ⟨gx, ox, c', hv, hgb, hgx, hcell⟩ := ho.cells (by omega)
        injection hv with hA _ hc'
        subst hA; subst hc'
        obtain ⟨y, hyk⟩ : ∃ y, ys[k]? = some y := ⟨_, List.getElem?_eq_getElem (by omega)⟩
        have r0 : wr.cell? ⟨gx, ox + k, none⟩ = some (.int .u8 y) := by rw [hcell k (by omega), List.getElem?_map, hyk]; rfl
        have f0 : wr.frozen? ⟨gx, ox + k, none⟩ = false := (ho.free (j := k) (by omega)).1
        have d2 : decide ((k : Int) < (n : Int)) = true := decide_eq_true (by omega)
        have d2' : decide (k < n) = true := decide_eq_true hlt
        have HY : Hid ((ys.set k (IntKind.u8.wrap (y + 1))).length = n) := Lib.hid (by rw [List.length_set]; exact hy)
        have HO : Hid (OwnS (wr.setCell ⟨gx, ox + k, none⟩ (.int .u8 (IntKind.u8.wrap (y + 1)))) w3.heap.size 5 1 (.slice (some ⟨gx, ox, none⟩) n n) n ((ys.set k (IntKind.u8.wrap (y + 1))).map (Value.int .u8))) := Lib.hid (by
          rw [← ints_set]
          exact ho.setAt (by omega) _)
        have HB := Lib.hid (hb.setCell (p := ⟨gx, ox + k, none⟩) hgb (.int .u8 (IntKind.u8.wrap (y + 1))))
        clear hcell hgx hgb ho hb hy hyl hyk
        go_wp2
        go_roundw
        case rel => exact ⟨k + 1, rfl, by omega, ⟨_, HY.out, HO.out⟩, HB.out⟩
        case measure => simp [intOf]; omega
      · obtain rfl : n = k := by omega
        have d2 : decide ((n : Int) < (n : Int)) = false := decide_eq_false (by omega)
        have d2' : decide (n < n) = false := decide_eq_false (by omega)
        obtain ⟨K, hK, hml⟩ := (HOB.out wr (Chg.of_below hb)).2
        have HML := Lib.hid hml
        have HB := Lib.hid hb
        clear ho hb hy hml
        generalize hkl : K.length = kl at *
        have HKL := Lib.hid hkl
        unfold LinksPost at HML
        rw [HKL.out] at HML
        clear hkl
        generalize wr = w10 at *
        go_upto_region 14 with (go_at_call 12; go_loud (refine (links_any _ _ _ HML.out (by rintro e w' ⟨_, A, rfl, _⟩; exact ⟨_, rfl⟩)).mono ?_; rintro e w11 ⟨hb11, A11, rfl, ho11⟩; have HB11 := Lib.hid (HB.out.trans (hb11.mono HB.out.size)); have HO11 := Lib.hid (ho11.base_ HB.out.size); clear hb11 ho11))
        clear d2 d2'
        go_wp2
        go_loopw [12] (fun vi wr => ∃ k : Nat, vi = .int .i64 k ∧ k ≤ kl ∧ (∃ us : List Value, us.length = kl * 2 ∧ OwnS wr w3.heap.size 55 2 (.slice A11 kl kl) kl us) ∧ Below w3.heap.size w3 wr) (fun vi _ => kl - (intOf vi).toNat)
        case atStart => exact ⟨0, rfl, Nat.zero_le _, ⟨_, by rw [lkVs_len, HKL.out], HO11.out⟩, HB11.out⟩
        case round =>
          clear HO11 HB11
          obtain ⟨k, rfl, hk, ⟨us, hy, ho⟩, hb⟩ := hrel
          by_cases hlt : k < kl
          · obtain ⟨gx, ox, c', hv, hgb, hgx, hcell⟩ := ho.cells (by omega)
            injection hv with hA _ hc'
            subst hA; subst hc'
            obtain ⟨f0, y, r0⟩ := ho.free (j := k * 2 + 1) (by omega)
            have f0' : wr.frozen? ⟨gx, ox + k * 2 + 1, none⟩ = false := f0
            have r0' : wr.cell? ⟨gx, ox + k * 2 + 1, none⟩ = some y := r0
            have d2 : decide ((k : Int) < (kl : Int)) = true := decide_eq_true (by omega)
            have d2' : decide (k < kl) = true := decide_eq_true hlt
            have HY : Hid ((us.set (k * 2 + 1) (.int .i64 99)).length = kl * 2) := Lib.hid (by rw [List.length_set]; exact hy)
            have HO : Hid (OwnS (wr.setCell ⟨gx, ox + k * 2 + 1, none⟩ (.int .i64 99)) w3.heap.size 55 2 (.slice (some ⟨gx, ox, none⟩) kl kl) kl (us.set (k * 2 + 1) (.int .i64 99))) := Lib.hid (ho.setAt (by omega) _)
            have HB := Lib.hid (hb.setCell (p := ⟨gx, ox + k * 2 + 1, none⟩) hgb (.int .i64 99))
            clear hcell hgx hgb ho hb hy f0 r0
            go_wp2
            go_roundw
            case rel => exact ⟨k + 1, rfl, by omega, ⟨_, HY.out, HO.out⟩, HB.out⟩
            case measure => simp [intOf]; omega
          · obtain rfl : kl = k := by omega
            have d2 : decide ((kl : Int) < (kl : Int)) = false := decide_eq_false (by omega)
            have d2' : decide (kl < kl) = false := decide_eq_false (by omega)
            have HB5 := Lib.hid hb
            clear ho hb hy
            generalize wr = w12 at *
            have HO12 := Lib.hid ((HO6.out.lowB HB3.out).lowB HB5.out)
            have HC12 := Lib.hid (Chg.of_below (S := fun k => k < w6.heap.size) HB5.out)
            have HB12 := Lib.hid ((HB6.out.trans (HB3.out.mono HB6.out.size)).trans (HB5.out.mono (Nat.le_trans HB6.out.size HB3.out.size)))
            clear d2 d2' HB5
            go_wp2
            go_loopw [13] (fun vi wr => ∃ k : Nat, vi = .int .i64 k ∧ k ≤ n ∧ (∃ ys : List Int, ys.length = n ∧ OwnS wr w.heap.size 5 1 (.slice (some ⟨g, off, none⟩) (n + 1) c6) (n + 1) ((ys ++ [77]).map (Value.int .u8))) ∧ Chg (fun k => k < w6.heap.size) w3 wr ∧ Below w.heap.size w wr) (fun vi _ => n - (intOf vi).toNat)
            case atStart => exact ⟨0, rfl, Nat.zero_le _, ⟨xs, HN.out, HO12.out⟩, HC12.out, HB12.out⟩
            case round =>
              clear HO12 HC12 HB12
              obtain ⟨k, rfl, hk, ⟨ys, hy, ho⟩, hch, hb⟩ := hrel
              have hyl : ((ys ++ [77]).map (Value.int .u8)).length = n + 1 := by rw [List.length_map, List.length_append, hy]; rfl
              obtain ⟨gx, ox, c', hv, hgb, hgx, hcell⟩ := ho.cells (by omega)
              injection hv with hA _ hc'
              injection hA with hA
              injection hA with hA1 hA2
              subst hA1; subst hA2
              by_cases hlt : k < n
              · obtain ⟨y, hyk⟩ : ∃ y, ys[k]? = some y := ⟨_, List.getElem?_eq_getElem (by omega)⟩
                have r0 : wr.cell? ⟨g, off + k, none⟩ = some (.int .u8 y) := by rw [hcell k (by omega), List.getElem?_map, List.getElem?_append_left (by omega), hyk]; rfl
                have f0 : wr.frozen? ⟨g, off + k, none⟩ = false := (ho.free (j := k) (by omega)).1
                have d2 : decide ((k : Int) < (n : Int)) = true := decide_eq_true (by omega)
                have d2' : decide (k < n) = true := decide_eq_true hlt
                have hb2 : k < n + 1 := by omega
                have HY : Hid ((ys.set k (IntKind.u8.wrap (y + 1))).length = n) := Lib.hid (by rw [List.length_set]; exact hy)
                have HO : Hid (OwnS (wr.setCell ⟨g, off + k, none⟩ (.int .u8 (IntKind.u8.wrap (y + 1)))) w.heap.size 5 1 (.slice (some ⟨g, off, none⟩) (n + 1) c6) (n + 1) ((ys.set k (IntKind.u8.wrap (y + 1)) ++ [77]).map (Value.int .u8))) := Lib.hid (by
                  rw [← List.set_append_left _ _ (by omega), ← ints_set]
                  exact ho.setAt (by omega) _)
                have HB := Lib.hid (hb.setCell (p := ⟨g, off + k, none⟩) hgb (.int .u8 (IntKind.u8.wrap (y + 1))))
                have HC := Lib.hid (hch.setCell (a := ⟨g, off + k, none⟩) (.inl HGS.out) (.int .u8 (IntKind.u8.wrap (y + 1))))
                clear hcell hgx hgb ho hb hch hy hyl hyk
                go_wp2
                go_roundw
                case rel => exact ⟨k + 1, rfl, by omega, ⟨_, HY.out, HO.out⟩, HC.out, HB.out⟩
                case measure => simp [intOf]; omega
              · obtain rfl : n = k := by omega
                have d2 : decide ((n : Int) < (n : Int)) = false := decide_eq_false (by omega)
                have d2' : decide (n < n) = false := decide_eq_false (by omega)
                have r77 : wr.cell? ⟨g, off + n, none⟩ = some (.int .u8 77) := by
                  rw [hcell n (by omega), List.getElem?_map, List.getElem?_append_right (by omega), hy, Nat.sub_self]
                  rfl
                have HR := Lib.hid r77
                have HGX := Lib.hid hgx
                have HB := Lib.hid hb
                have m3 := (HOB.out wr hch).1
                rw [HX.out] at m3
                unfold BytesPost at m3
                rw [HN.out] at m3
                have HM3 := Lib.hid m3
                clear m3 hcell hgx hgb ho hch hb hy hyl r77
                generalize wr = w13 at *
                go_wp2_with first
                  | (go_at_call 13; go_loud (refine (awake8_any w14 HE14.out).mono ?_; rintro e w15 ⟨rfl, hb15⟩; have HB15 := Lib.hid (HB14.out.trans (hb15.mono HB14.out.size)); clear hb15))
                  | (refine wpList_invoke rfl (.tmp 87) "Bytes" rfl _ rfl _ HM3.out ?_; rintro e w14 ⟨A14, rfl, ho14, hb14⟩; refine ⟨_, rfl, ?_⟩; have HB14 := Lib.hid (HB.out.trans (hb14.mono HB.out.size)); have HE14 := Lib.hid (HE.out.below HB14.out); have cv14 := HCV.out w14 A14 n ho14.ints; have r14 : w14.cell? ⟨g, off + n, none⟩ = some (.int .u8 77) := (hb14.cell (p := ⟨g, off + n, none⟩) HGX.out).trans HR.out; clear ho14 hb14)
                go_ret
                exact ⟨rfl, HB15.out⟩
end Go.Proofs.YtdlabapfcghfmaaGreatDoor
