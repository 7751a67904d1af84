/- All that hangs on some objects: the program's Closure, Check. -/
import Derived.Test.YtihanglnjghcfaaGreatDoorGLn12
import Derived.Test.YtihanglnjghcfaaGreatDoorGLn4
import Derived.Test.YtihanglnjghcfaaGreatDoorGLn3
import Derived.Test.YtihanglnjghcfaaGreatDoorGLn8
import Derived.Test.YtihanglnjghcfaaGreatDoorGLn5
import Derived.Test.YtihanglnjghcfaaGreatDoorGLn9
import Derived.Test.YtihanglnjghcfaaGreatDoorGLn11
import Derived.Test.YtihanglnjghcfaaGreatDoorGLn10
import Derived.Deep.CutBlock
import Derived.Deep.DeepCutAuto
import Derived.Test.YtihanglnjghcfaaGreatDoorGLn2
namespace Go.Proofs.YtihanglnjghcfaaGreatDoor
open Go.RowKit Go.Maps
set_option linter.unusedVariables false
set_option linter.unusedSimpArgs false

/-- What the closure answers. -/
def ClosAns (R : Except Int (List Git)) (w w' : World) (e : Ending) : Prop :=
 match R with
 | .error x => e = .returned (.tuple #[.slice none 0 0, .int .i64 x])
 | .ok m => ∃ A, e = .returned (.tuple #[.slice A m.length m.length, .int .i64 0]) ∧ OwnS w' w.heap.size 9 1 (.slice A m.length m.length) m.length (strVs (sortG (m.map (·.id))))
def ClosPost (St : (Nat → Prop) → List Gid → World → Prop) (F : Nat → Prop) (qs : List Gid) (R : Except Int (List Git)) (w : World) (e : Ending) (w' : World) : Prop :=
 ∃ F' qs', St F' (qs ++ qs') w' ∧ qs'.Nodup ∧ Chg F w w' ∧ (∀ k, F' k → F k ∨ w.heap.size ≤ k) ∧ ClosAns R w w' e
/-- What the walk keeps from round to round. -/
structure ClosI (St : (Nat → Prop) → List Gid → World → Prop) (F : Nat → Prop) (qs U : List Gid) (G : Gid → Option Kn) (rs : List Gid) (most : Int) (get : Value) (w : World) (g i : Nat) (l : List Git) (F1 : Nat → Prop) (wr : World) : Prop where
 st : St F1 (qs ++ (l.map (·.id)).take i) wr
 sub : ∀ k, F1 k → F k ∨ w.heap.size ≤ k
 chg : Chg F w wr
 at' : WalkAt wr (KOf w.heap.size F1) g get false l
 eq : closR G U rs most = goG (gobG G) most (U.length + 1 - i) i l
 one : OneG l
 inU : SubU U l
 le : i ≤ l.length
theorem EnvO.lt {w : World} (h : EnvO w) : 1 < w.heap.size ∧ 2 < w.heap.size :=
 ⟨block_lt (h.tabs.1 0 (by decide)), block_lt (a := ⟨2, 2 * 0, none⟩) (h.tabs.2 0 (by decide)).1⟩
set_option maxRecDepth 100000 in
set_option maxHeartbeats 4000000 in
theorem closure_any (hSo : SortsS) {f : FuncId} {c1 c2 : Value} {G : Gid → Option Kn} {St : (Nat → Prop) → List Gid → World → Prop} (hg : Getter f c1 c2 G St) {U : List Gid} (hU : Univ G U) (F : Nat → Prop) (qs : List Gid) (w : World) (A : Option Addr) (n c : Nat) (rs : List Gid) (most : Int)
 (hS : St F qs w) (hE : EnvO w) (h1 : ¬ F 1) (h2 : ¬ F 2) (hR : StrsAt w A (rs.map bk)) (hn : rs.length = n) (hl : n ≤ 268435456) (hs : ∀ r ∈ rs, r.length ≤ 1099511627776) (hrU : ∀ r ∈ rs, r ∈ U) :
 Calls Tryz.prog 16 #[fnV f c1 c2, .slice A n c, .int .i64 most] w (ClosPost St F qs (closR G U rs most) w) := by
 have HBE := Lib.hid (begin_any f c1 c2 A n c rs w hR hn hl hs)
 have HG := Lib.hid hg
 have HU := Lib.hid hU
 have HE := Lib.hid hE
 have HT := Lib.hid (And.intro hE.lt.1 (And.intro hE.lt.2 (And.intro h1 h2)))
 have HS0 := Lib.hid hS
 have HLO := Lib.hid (hg.low hS)
 have HRU := Lib.hid hrU
 have HSO := Lib.hid hSo
 clear hg hU hS hE h1 h2 hR hn hl hs hrU hSo
 unfold fnV at *
 go_enter Tryz.func16, Tryz.ntmps16
 go_wp2_with fail
 refine HBE.out.mono ?_
 rintro e w1 ⟨hb1, g, rfl, hw1⟩
 have HI0 : Hid (ClosI St F qs U G rs most (.func (.func f) #[] #[c1, c2]) w g 0 (rootsP [] rs) F w1) := Lib.hid {
  st := by simpa using HG.out.keep HS0.out (Chg.of_below (S := fun k => w.heap.size ≤ k) hb1) (fun k hk => Nat.not_le.2 (HLO.out k hk))
  sub := fun k hk => .inl hk
  chg := Chg.of_below hb1
  at' := hw1.keep (Chg.refl (fun _ => False) _) (fun _ _ _ h => h) (fun k hk _ => ⟨hk, fun h => by have := HLO.out k h; omega⟩)
  eq := rfl
  one := rootsP_one rs [] List.Pairwise.nil
  inU := rootsP_sub rs [] (fun x hx => by simp at hx) HRU.out
  le := Nat.zero_le _ }
 clear hb1 hw1
 go_wp2
 go_loopw [9] (fun vn wr => ∃ (i : Nat) (l : List Git) (F1 : Nat → Prop), vn = .int .i64 i ∧ ClosI St F qs U G rs most (.func (.func f) #[] #[c1, c2]) w g i l F1 wr) (fun vn _ => U.length - (intOf vn).toNat)
 case atStart => exact ⟨0, _, _, rfl, HI0.out⟩
 case round =>
  obtain ⟨i, l, F1, rfl, hI⟩ := hrel
  have HI := Lib.hid hI
  obtain ⟨_, A2, c2', _, _, hce, _⟩ := hI.at'
  have k1 : wr.cell? ⟨g, 1, none⟩ = some (.slice A2 l.length c2') := hce.cell 1 (by decide)
  have hlu := sub_len hI.one hI.inU
  have HLU := Lib.hid (And.intro hlu HU.out.num)
  clear hI hce hlu
  by_cases hlt : i < l.length
  · have d1 : decide ((i : Int) < (l.length : Int)) = true := decide_eq_true (by omega)
    have d1' : decide (i < l.length) = true := decide_eq_true hlt
    have HLT := Lib.hid hlt
    obtain ⟨M, hM⟩ : ∃ M, max most 0 = M := ⟨_, rfl⟩
    have HM : Hid (max most 0 = M) := Lib.hid hM
    by_cases hb : M ≤ (i : Int)
    · have d2 : decide (M ≤ (i : Int)) = true := decide_eq_true hb
      have HRES : Hid (closR G U rs most = .error 5) := Lib.hid (by rw [HI.out.eq, show U.length + 1 - i = (U.length - i) + 1 by have := HLU.out.1; omega]; exact goG_big hlt (by rw [HM.out]; exact hb))
      clear hb hlt
      go_wp2
      go_ret2
      rw [HRES.out]
      exact ⟨F1, _, HI.out.st, List.Nodup.sublist (List.take_sublist _ _) HI.out.one, HI.out.chg, HI.out.sub, rfl⟩
    · have d2 : decide (M ≤ (i : Int)) = false := decide_eq_false hb
      have HRES : Hid (closR G U rs most = if (lookW false (gobG G) l i).2 = 0 then goG (gobG G) most (U.length + 1 - (i + 1)) (i + 1) (lookW false (gobG G) l i).1 else .error (lookW false (gobG G) l i).2) := Lib.hid (by rw [HI.out.eq, show U.length + 1 - i = (U.length - i) + 1 by have := HLU.out.1; omega, show U.length + 1 - (i + 1) = U.length - i by omega]; exact goG_step hlt (by rw [HM.out]; exact hb))
      have hx : l[i]? = some l[i] := List.getElem?_eq_getElem hlt
      have HLK := Lib.hid (look_any HG.out F1 (qs ++ (l.map (·.id)).take i) wr w.heap.size g i false l l[i] HI.out.st (HE.out.chg HI.out.chg HT.out.2.2.1 HT.out.2.2.2) HT.out.1 HT.out.2.1 (fun h => by rcases HI.out.sub _ h with h | h; exact HT.out.2.2.1 h; have := HT.out.1; omega) (fun h => by rcases HI.out.sub _ h with h | h; exact HT.out.2.2.2 h; have := HT.out.2.1; omega) HI.out.chg.size HI.out.at' hx (by have := HLU.out; omega) (fun o ho => HU.out.sz _ o ho))
      have HQS : Hid (∀ t, qs ++ (l.map (·.id)).take i ++ [l[i].id] = qs ++ ((l.map (·.id)) ++ t).take (i + 1)) := Lib.hid (fun t => by
       rw [List.append_assoc]
       congr 1
       rw [List.take_append_of_le_length (by simp; omega), List.take_add_one, List.getElem?_map, hx]
       rfl)
      obtain ⟨t, ht⟩ := lookW_pre false (gobG G) l i
      have HPR := Lib.hid ht
      have HON := Lib.hid (lookW_one false (gobG G) i HI.out.one)
      have HSU := Lib.hid (lookW_sub HU.out false i HI.out.inU)
      have HLL : Hid (l.length ≤ (lookW false (gobG G) l i).1.length) := Lib.hid (by have := congrArg List.length ht; simp at this; omega)
      have hw1 : IntKind.i64.wrap ((i : Int) + 1) = (i : Int) + 1 := IntWalk.i64_in _ (by have := HLU.out; omega)
      rw [show (fun d => (G d).map gobK) = gobG G from rfl] at HLK
      unfold fnV at HLK
      unfold LookPost at HLK
      generalize l[i] = x at *
      clear hb hlt hx ht
      go_wp2_with fail
      refine HLK.out.mono ?_
      generalize lookW false (gobG G) l i = R at *
      rintro e w2 ⟨rfl, F2, hs2, hf2, hc2, hw2⟩
      obtain ⟨m, er⟩ := R
      dsimp only at *
      have HC2 : Hid (Chg F w w2) := Lib.hid (HI.out.chg.trans hc2 (fun k hk h => by
       rcases h with h | h
       · rcases HI.out.sub k h with h | h
         · exact h
         · omega
       · have := h.1; omega))
      have HF2 : Hid (∀ k, F2 k → F k ∨ w.heap.size ≤ k) := Lib.hid (fun k hk => by
       rcases hf2 k hk with h | h
       · exact HI.out.sub k h
       · have := HI.out.chg.size; exact .inr (by omega))
      have HS2 : Hid (St F2 (qs ++ (m.map (·.id)).take (i + 1)) w2) := Lib.hid (by rw [HPR.out, ← HQS.out]; exact hs2)
      have HW2 := Lib.hid hw2
      clear hs2 hf2 hc2 hw2
      by_cases h0 : er = 0
      · subst h0
        have h0 : (0 : Int) = 0 := rfl
        have HEQ : Hid (closR G U rs most = goG (gobG G) most (U.length + 1 - (i + 1)) (i + 1) m) := Lib.hid (by rw [HRES.out, if_pos h0])
        go_wp2
        go_roundw
        case rel => exact ⟨i + 1, m, F2, rfl, ⟨HS2.out, HF2.out, HC2.out, HW2.out, HEQ.out, HON.out, HSU.out, by have := HLL.out; have := HLT.out; omega⟩⟩
        case measure => have := HLU.out; have := HLT.out; simp [intOf]; omega
      · have HEQ : Hid (closR G U rs most = .error er) := Lib.hid (by rw [HRES.out, if_neg h0])
        go_wp2
        go_ret2
        rw [HEQ.out]
        exact ⟨F2, _, HS2.out, List.Nodup.sublist (List.take_sublist _ _) HON.out, HC2.out, HF2.out, rfl⟩
  · have d1 : decide ((i : Int) < (l.length : Int)) = false := decide_eq_false (by omega)
    have d1' : decide (i < l.length) = false := decide_eq_false hlt
    have HRES : Hid (closR G U rs most = .ok l) := Lib.hid (by rw [HI.out.eq]; exact goG_end (by omega))
    have HID := Lib.hid (ids_any HSO.out _ g _ false l wr HI.out.at' (by have := HLU.out; omega))
    clear hlt
    go_wp2_with fail
    refine HID.out.mono ?_
    rintro e w2 ⟨hb2, A3, rfl, ho2⟩
    have e1 : (sortG (l.map (·.id))).length = l.length := by rw [sortG_len, List.length_map]
    rw [e1] at ho2
    have HO2 := Lib.hid ho2
    have HB2 := Lib.hid hb2
    have HLW := Lib.hid (HG.out.low HI.out.st)
    have HE1 := Lib.hid e1
    clear hb2 ho2 e1
    go_wp2
    go_ret2
    rw [HRES.out]
    refine ⟨F1, _, HG.out.keep HI.out.st (Chg.of_below (S := fun k => wr.heap.size ≤ k) HB2.out) (fun k hk => Nat.not_le.2 (HLW.out k hk)), List.Nodup.sublist (List.take_sublist _ _) HI.out.one, HI.out.chg.trans (Chg.of_below (S := fun _ => False) HB2.out) (fun _ _ h => h.elim), HI.out.sub, A3, by rw [HE1.out]; rfl, HO2.out.base_ HI.out.chg.size⟩
end Go.Proofs.YtihanglnjghcfaaGreatDoor
namespace Go.Proofs.YtihanglnjghcfaaGreatDoor
open Go.RowKit
set_option linter.unusedVariables false
set_option linter.unusedSimpArgs false

/-- The document's object in memory. -/
structure O8At (w : World) (b : Nat) (kd : Int) (d : ByteArray) (vL : Value) (t : ByteArray) (vP : Value) (a c o n : ByteArray) (ty : Int) (g m : ByteArray) : Prop where
 c0 : w.cell? ⟨b, 0, none⟩ = some (.int .i64 kd)
 c1 : w.cell? ⟨b, 1, none⟩ = some (.string d)
 c2 : w.cell? ⟨b, 2, none⟩ = some (vL)
 c3 : w.cell? ⟨b, 3, none⟩ = some (.string t)
 c4 : w.cell? ⟨b, 4, none⟩ = some (vP)
 c5 : w.cell? ⟨b, 5, none⟩ = some (.string a)
 c6 : w.cell? ⟨b, 6, none⟩ = some (.string c)
 c7 : w.cell? ⟨b, 7, none⟩ = some (.string o)
 c8 : w.cell? ⟨b, 8, none⟩ = some (.string n)
 c9 : w.cell? ⟨b, 9, none⟩ = some (.int .i64 ty)
 c10 : w.cell? ⟨b, 10, none⟩ = some (.string g)
 c11 : w.cell? ⟨b, 11, none⟩ = some (.string m)
theorem O8At.lt {w : World} {b : Nat} {kd : Int} {d : ByteArray} {vL : Value} {t : ByteArray} {vP : Value} {a c o n : ByteArray} {ty : Int} {g m : ByteArray} (h : O8At w b kd d vL t vP a c o n ty g m) : b < w.heap.size := World.block_lt_of_cell? w _ h.c0
theorem O8At.below {w w' : World} {b : Nat} {kd : Int} {d : ByteArray} {vL : Value} {t : ByteArray} {vP : Value} {a c o n : ByteArray} {ty : Int} {g m : ByteArray} (h : O8At w b kd d vL t vP a c o n ty g m) (hb : Below w.heap.size w w') : O8At w' b kd d vL t vP a c o n ty g m :=
 ⟨by rw [hb.cell h.lt]; exact h.c0, by rw [hb.cell h.lt]; exact h.c1, by rw [hb.cell h.lt]; exact h.c2, by rw [hb.cell h.lt]; exact h.c3, by rw [hb.cell h.lt]; exact h.c4, by rw [hb.cell h.lt]; exact h.c5, by rw [hb.cell h.lt]; exact h.c6, by rw [hb.cell h.lt]; exact h.c7, by rw [hb.cell h.lt]; exact h.c8, by rw [hb.cell h.lt]; exact h.c9, by rw [hb.cell h.lt]; exact h.c10, by rw [hb.cell h.lt]; exact h.c11⟩
theorem O8At.new (w : World) (kd : Int) (d : ByteArray) (vL : Value) (t : ByteArray) (vP : Value) (a c o n : ByteArray) (ty : Int) (g m : ByteArray) : O8At (w.alloc (.cells #[.int .i64 kd, .string d, vL, .string t, vP, .string a, .string c, .string o, .string n, .int .i64 ty, .string g, .string m] 67)) w.heap.size kd d vL t vP a c o n ty g m :=
 ⟨by rw [World.cell?_alloc_at _ _ _ _ (by simp)]; rfl, by rw [World.cell?_alloc_at _ _ _ _ (by simp)]; rfl, by rw [World.cell?_alloc_at _ _ _ _ (by simp)]; rfl, by rw [World.cell?_alloc_at _ _ _ _ (by simp)]; rfl, by rw [World.cell?_alloc_at _ _ _ _ (by simp)]; rfl, by rw [World.cell?_alloc_at _ _ _ _ (by simp)]; rfl, by rw [World.cell?_alloc_at _ _ _ _ (by simp)]; rfl, by rw [World.cell?_alloc_at _ _ _ _ (by simp)]; rfl, by rw [World.cell?_alloc_at _ _ _ _ (by simp)]; rfl, by rw [World.cell?_alloc_at _ _ _ _ (by simp)]; rfl, by rw [World.cell?_alloc_at _ _ _ _ (by simp)]; rfl, by rw [World.cell?_alloc_at _ _ _ _ (by simp)]; rfl⟩
end Go.Proofs.YtihanglnjghcfaaGreatDoor
namespace Go.Proofs.YtihanglnjghcfaaGreatDoor
open Go.RowKit
set_option linter.unusedVariables false
set_option linter.unusedSimpArgs false

set_option maxRecDepth 100000 in
set_option maxHeartbeats 4000000 in
theorem refCommit_any (d : ByteArray) (vL : Value) (t : ByteArray) (A : Option Addr) (N cP : Nat) (P : List ByteArray) (a c o n : ByteArray) (ty : Int) (g m : ByteArray) (w : World) (hS : StrsAt w A P) (hN : P.length = N) (hNb : N ≤ 140737488355328) (hsz : (commitL t P a c m).length ≤ 140737488351300) :
 Calls Tryz.prog 33 #[.agg #[.int .i64 1, .string d, vL, .string t, .slice A N cP, .string a, .string c, .string o, .string n, .int .i64 ty, .string g, .string m]] w fun e w' => e = .returned (.string (strOfNums (commitL t P a c m))) ∧ Below w.heap.size w w' := by
 have HN := Lib.hid hN
 have hz : t.size + 6 + (parL P).length + (a.size + c.size + m.size + 20) ≤ 140737488351300 := by
  unfold commitL at hsz
  rw [List.length_append, List.length_append, bytesOf_len, bytesOf_len, headS_size, tailS_size] at hsz
  exact hsz
 have HSZ := Lib.hid hz
 have st : t.size ≤ 140737488351300 := by omega
 have sa : a.size ≤ 140737488351300 := by omega
 have sc : c.size ≤ 140737488351300 := by omega
 have sm : m.size ≤ 140737488351300 := by omega
 clear hN hsz hz
 have hl0 : Below w.heap.size w (w.alloc (.cells #[.int .i64 1, .string d, vL, .string t, (.slice A N cP), .string a, .string c, .string o, .string n, .int .i64 ty, .string g, .string m] 67)) := (Below.refl _ _).alloc (Nat.le_refl _) _
 have ho0 := O8At.new w 1 d vL t (.slice A N cP) a c o n ty g m
 have HSA := Lib.hid (hS.below hl0)
 clear hS
 go_enter Tryz.func33, Tryz.ntmps33
 go_upto_region 1 with (fail)
 generalize w.alloc (.cells #[.int .i64 1, .string d, vL, .string t, (.slice A N cP), .string a, .string c, .string o, .string n, .int .i64 ty, .string g, .string m] 67) = w0 at *
 have k0 := ho0.c0
 have HO := Lib.hid ho0
 have HL := Lib.hid hl0
 clear ho0 hl0
 generalize hog : w.heap.size = og at *
 have HOG := Lib.hid hog
 clear hog
 have k3 := HO.out.c3
 have z1 : ((⟨#[116, 114, 101, 101, 32]⟩ : ByteArray) ++ t).size = 5 + t.size := by rw [ByteArray.size_append]; rfl
 have z2 : ((⟨#[116, 114, 101, 101, 32]⟩ : ByteArray) ++ t ++ (⟨#[10]⟩ : ByteArray)).size = 5 + t.size + 1 := by rw [ByteArray.size_append, z1]; rfl
 go_upto_region 12 with (fail)
 have k4 := HO.out.c4
 go_wp2
 go_loopw [5, 3] (fun vi vs wr => ∃ (k : Nat), vi = .int .i64 k ∧ vs = .string (strOfNums (bytesOf (headS t) ++ parL (P.take k))) ∧ k ≤ N ∧ Below w0.heap.size w0 wr) (fun vi _ _ => N - (intOf vi).toNat)
 case atStart => exact ⟨0, rfl, by simp only [parL, List.take_zero, List.flatMap_nil, List.append_nil]; rw [strOfNums_bytes]; rfl, Nat.zero_le _, Below.refl _ _⟩
 case round =>
  clear z1 z2
  obtain ⟨k, rfl, rfl, hk, hb⟩ := hrel
  have kr4 := (HO.out.below hb).c4
  have HOR := Lib.hid (HO.out.below hb)
  have HB := Lib.hid hb
  have HER := Lib.hid (HSA.out.below hb)
  clear hb
  by_cases hlt : k < N
  · obtain ⟨p, hp⟩ : ∃ p, P[k]? = some p := ⟨_, List.getElem?_eq_getElem (by rw [HN.out]; exact hlt)⟩
    have hsx := parL_succ hp
    have hs1 := parL_pre P (k + 1)
    rw [hsx, List.length_append, bytesOf_len, parS_size] at hs1
    have hs2 := HSZ.out
    obtain ⟨eb, eo, rfl, heb, hcell⟩ := HER.out (by rw [HN.out]; omega)
    have r0 := hcell k p hp
    have d2 : decide ((k : Int) < (N : Int)) = true := decide_eq_true (by omega)
    have d2' : decide (k < N) = true := decide_eq_true hlt
    have HSX := Lib.hid hsx
    have sp : p.size ≤ 140737488351300 := by omega
    have z0 : (strOfNums (bytesOf (headS t) ++ parL (P.take k))).size ≤ 140737488351300 := by rw [strOfNums_size, List.length_append, bytesOf_len, headS_size]; omega
    clear hcell hp hs1 hs2 hsx heb
    generalize hS : strOfNums (bytesOf (headS t) ++ parL (P.take k)) = S at *
    have HS := Lib.hid hS
    clear hS
    have z1 : (S ++ (⟨#[112, 97, 114, 101, 110, 116, 32]⟩ : ByteArray)).size = S.size + 7 := by rw [ByteArray.size_append]; rfl
    have z2 : (S ++ (⟨#[112, 97, 114, 101, 110, 116, 32]⟩ : ByteArray) ++ p).size = S.size + 7 + p.size := by rw [ByteArray.size_append, z1]
    have z3 : (S ++ (⟨#[112, 97, 114, 101, 110, 116, 32]⟩ : ByteArray) ++ p ++ (⟨#[10]⟩ : ByteArray)).size = S.size + 7 + p.size + 1 := by rw [ByteArray.size_append, z2]; rfl
    have HNX : Hid (S ++ (⟨#[112, 97, 114, 101, 110, 116, 32]⟩ : ByteArray) ++ p ++ (⟨#[10]⟩ : ByteArray) = strOfNums (bytesOf (headS t) ++ parL (P.take (k + 1)))) := Lib.hid (by
     rw [HSX.out, ← List.append_assoc, ← str_app, HS.out, strOfNums_bytes]
     show _ = S ++ ((⟨#[112, 97, 114, 101, 110, 116, 32]⟩ : ByteArray) ++ p ++ (⟨#[10]⟩ : ByteArray))
     simp only [ByteArray.append_assoc])
    go_wp2
    go_roundw
    case rel => exact ⟨k + 1, rfl, by rw [← HNX.out], by omega, HB.out⟩
    case measure => simp [intOf]; omega
  · obtain rfl : k = N := by omega
    have d2 : decide ((k : Int) < (k : Int)) = false := decide_eq_false (by omega)
    have d2' : decide (k < k) = false := decide_eq_false (by omega)
    rw [List.take_of_length_le (by rw [HN.out]; exact Nat.le_refl _)]
    have kr5 := HOR.out.c5
    have kr6 := HOR.out.c6
    have kr11 := HOR.out.c11
    have z0 : (strOfNums (bytesOf (headS t) ++ parL P)).size ≤ 140737488351300 := by rw [strOfNums_size, List.length_append, bytesOf_len, headS_size]; have := HSZ.out; omega
    generalize hS : strOfNums (bytesOf (headS t) ++ parL P) = S at *
    have HS := Lib.hid hS
    clear hS
    have z1 : (S ++ (⟨#[97, 117, 116, 104, 111, 114, 32]⟩ : ByteArray)).size = S.size + 7 := by rw [ByteArray.size_append]; rfl
    have z2 : (S ++ (⟨#[97, 117, 116, 104, 111, 114, 32]⟩ : ByteArray) ++ a).size = S.size + 7 + a.size := by rw [ByteArray.size_append, z1]
    have z3 : (S ++ (⟨#[97, 117, 116, 104, 111, 114, 32]⟩ : ByteArray) ++ a ++ (⟨#[10, 99, 111, 109, 109, 105, 116, 116, 101, 114, 32]⟩ : ByteArray)).size = S.size + 7 + a.size + 11 := by rw [ByteArray.size_append, z2]; rfl
    have z4 : (S ++ (⟨#[97, 117, 116, 104, 111, 114, 32]⟩ : ByteArray) ++ a ++ (⟨#[10, 99, 111, 109, 109, 105, 116, 116, 101, 114, 32]⟩ : ByteArray) ++ c).size = S.size + 7 + a.size + 11 + c.size := by rw [ByteArray.size_append, z3]
    have z5 : (S ++ (⟨#[97, 117, 116, 104, 111, 114, 32]⟩ : ByteArray) ++ a ++ (⟨#[10, 99, 111, 109, 109, 105, 116, 116, 101, 114, 32]⟩ : ByteArray) ++ c ++ (⟨#[10, 10]⟩ : ByteArray)).size = S.size + 7 + a.size + 11 + c.size + 2 := by rw [ByteArray.size_append, z4]; rfl
    have z6 : (S ++ (⟨#[97, 117, 116, 104, 111, 114, 32]⟩ : ByteArray) ++ a ++ (⟨#[10, 99, 111, 109, 109, 105, 116, 116, 101, 114, 32]⟩ : ByteArray) ++ c ++ (⟨#[10, 10]⟩ : ByteArray) ++ m).size = S.size + 7 + a.size + 11 + c.size + 2 + m.size := by rw [ByteArray.size_append, z5]
    have HNX : Hid (S ++ (⟨#[97, 117, 116, 104, 111, 114, 32]⟩ : ByteArray) ++ a ++ (⟨#[10, 99, 111, 109, 109, 105, 116, 116, 101, 114, 32]⟩ : ByteArray) ++ c ++ (⟨#[10, 10]⟩ : ByteArray) ++ m = strOfNums (commitL t P a c m)) := Lib.hid (by
     unfold commitL
     rw [← str_app, HS.out, strOfNums_bytes]
     show _ = S ++ ((⟨#[97, 117, 116, 104, 111, 114, 32]⟩ : ByteArray) ++ a ++ (⟨#[10, 99, 111, 109, 109, 105, 116, 116, 101, 114, 32]⟩ : ByteArray) ++ c ++ (⟨#[10, 10]⟩ : ByteArray) ++ m)
     simp only [ByteArray.append_assoc])
    go_wp2
    go_ret
    exact ⟨by rw [← HNX.out]; rfl, by rw [HOG.out]; exact HL.out.trans (HB.out.mono (by rw [← HOG.out]; exact HL.out.size))⟩
end Go.Proofs.YtihanglnjghcfaaGreatDoor
namespace Go.Proofs.YtihanglnjghcfaaGreatDoor
open Go.RowKit
set_option linter.unusedVariables false
set_option linter.unusedSimpArgs false

theorem getD_some {vs : Array Value} {j : Nat} (hj : j < vs.size) : vs[j]? = some (vs.getD j undef) := by
 simp [hj]
/-- Cells of the document's object. -/
def zeroV : Array Value := #[.int .i64 0, .string ⟨#[]⟩, .slice none 0 0, .string ⟨#[]⟩, .slice none 0 0, .string ⟨#[]⟩, .string ⟨#[]⟩, .string ⟨#[]⟩, .string ⟨#[]⟩, .int .i64 0, .string ⟨#[]⟩, .string ⟨#[]⟩]
def CelV (w : World) (g : Nat) (V : Array Value) : Prop := Cel w g 67 12 (fun j => V.getD j undef)
theorem CelV.new (w : World) (V : Array Value) (hV : V.size = 12) : CelV (w.alloc (.cells V 67)) w.heap.size V := by
 have h := Cel.new w 67 V (fun j => V.getD j undef) (fun i hi => getD_some hi)
 rw [hV] at h
 exact h
theorem CelV.stored {w : World} {g : Nat} {V : Array Value} {f : Nat → Value} (hs : V.size = 12) (h : Cel w g 67 12 (fun j => if 0 ≤ j ∧ j < 0 + V.size then V.getD (j - 0) undef else f j)) : CelV w g V :=
 h.congr fun i hi => by rw [if_pos ⟨by omega, by omega⟩, Nat.sub_zero]
/-- What the reading holds: the answer's cells, the object's. -/
structure RSt (w0 w : World) (g1 g2 : Nat) (V : Array Value) : Prop where
 low : Below w0.heap.size w0 w
 e1 : w0.heap.size ≤ g1
 lt : g1 < g2
 res : CelV w g1 zeroV
 obj : CelV w g2 V
section
variable {w0 w w' : World} {g1 g2 : Nat} {V V' : Array Value}
theorem RSt.below (h : RSt w0 w g1 g2 V) (hb : Below w.heap.size w w') : RSt w0 w' g1 g2 V :=
 ⟨h.low.trans (hb.mono h.low.size), h.e1, h.lt, h.res.below hb h.res.blk, h.obj.below hb h.obj.blk⟩
theorem RSt.drew (h : RSt w0 w g1 g2 V) : RSt w0 w.drew g1 g2 V := ⟨h.low.drew, h.e1, h.lt, h.res.drew, h.obj.drew⟩
theorem RSt.chgHi (h : RSt w0 w g1 g2 V) (hc : Chg (fun k => g2 + 1 ≤ k) w w') : RSt w0 w' g1 g2 V := by
 have h1 := h.e1
 have h2 := h.lt
 exact ⟨h.low.trans (hc.below h.low.size (fun i hi e => by omega)), h.e1, h.lt, h.res.chg hc (by omega), h.obj.chg hc (by omega)⟩
theorem RSt.set (h : RSt w0 w g1 g2 V) {i : Nat} {v : Value} (hf : ∀ j, j < 12 → (if j = i then v else V.getD j undef) = V'.getD j undef) : RSt w0 (w.setCell ⟨g2, i, none⟩ v) g1 g2 V' :=
 ⟨h.low.setCell (p := ⟨g2, i, none⟩) (by have := h.e1; have := h.lt; show _ ≤ g2; omega) v, h.e1, h.lt, h.res.setFar (Nat.ne_of_lt h.lt) v, (h.obj.set i v).congr hf⟩
theorem RSt.begin (w : World) (V : Array Value) (hV : V.size = 12) : RSt w ((w.alloc (.cells zeroV 67)).alloc (.cells V 67)) w.heap.size (w.heap.size + 1) V := by
 refine ⟨((Below.refl _ _).alloc (Nat.le_refl _) _).alloc (by simp) _, Nat.le_refl _, by omega, (CelV.new w zeroV rfl).alloc _, ?_⟩
 have h := CelV.new (w.alloc (.cells zeroV 67)) V hV
 simpa using h
end
end Go.Proofs.YtihanglnjghcfaaGreatDoor
namespace Go.Proofs.YtihanglnjghcfaaGreatDoor
open Go.RowKit Go.Maps
set_option linter.unusedVariables false
set_option linter.unusedSimpArgs false

theorem and15 (n : Int) : ∃ N : Nat, bits .and .i64 n 15 = (N : Int) ∧ N < 16 := by
 have h127 : (BitVec.ofInt 64 15).toNat = 2 ^ 4 - 1 := by decide
 have key : (BitVec.ofInt 64 n &&& BitVec.ofInt 64 15).toNat = (n % ((2 ^ 64 : Nat) : Int)).toNat % 2 ^ 4 := by
  rw [BitVec.toNat_and, BitVec.toNat_ofInt, h127, Nat.and_two_pow_sub_one_eq_mod]
 refine ⟨(n % ((2 ^ 64 : Nat) : Int)).toNat % 2 ^ 4, ?_, by omega⟩
 show IntKind.i64.wrap ((BitVec.ofInt 64 n &&& BitVec.ofInt 64 15).toNat : Nat) = _
 rw [key, IntWalk.i64_in _ (by omega)]
/-- One of that kind and ID is kept. -/
def HasK (R : List Kn) (k : Int) (d : Gid) : Prop := ∃ y ∈ R, y.kd = k ∧ y.id = d
def textW : ByteArray := ⟨#[116, 101, 120, 116, 32]⟩
def perW : ByteArray := ⟨#[65, 32, 60, 97, 62, 32, 49, 32, 43, 48, 48, 48, 48]⟩
def entA (u : Gid) : Ent := ⟨⟨#[49, 48, 48, 54, 52, 52]⟩, ⟨#[97]⟩, bk u⟩
def entB (N : Nat) (t : Gid) : Ent := ⟨⟨#[52, 48, 48, 48, 48]⟩, ⟨#[98]⟩ ++ strOfNums (digL N), bk t⟩
def tagBt (c : Gid) (N : Nat) : ByteArray := tagS (bk c) (strOfNums (nameL 1)) ((⟨#[118]⟩ : ByteArray) ++ strOfNums (digL N)) perW ⟨#[116]⟩
def comBt (t : Gid) (P : List Gid) (N : Nat) : ByteArray := strOfNums (commitL (bk t) (P.map bk) perW perW (strOfNums (digL N)))
/-- How an object was made, out of those kept. -/
def MadeIn (R : List Kn) (x : Kn) : Prop :=
 (x.kd = 3 ∧ ∃ N : Nat, N < 64 ∧ x.b = (textW ++ strOfNums (digL N)).data.toList) ∨
 (x.kd = 2 ∧ ∃ u, HasK R 3 u ∧ (x.b = (strOfNums (treeL [entA u])).data.toList ∨ ∃ N t, N < 8 ∧ HasK R 2 t ∧ x.b = (strOfNums (treeL [entA u, entB N t])).data.toList)) ∨
 (x.kd = 4 ∧ ∃ c N, HasK R 1 c ∧ N < 8 ∧ x.b = (tagBt c N).data.toList) ∨
 (x.kd = 1 ∧ ∃ (t : Gid) (P : List Gid) (N : Nat), HasK R 2 t ∧ (∀ p ∈ P, HasK R 1 p) ∧ P.length ≤ 2 ∧ N < 16 ∧ x.b = (comBt t P N).data.toList)
/-- The kept ones' IDs. -/
def IdR (R : List Kn) : Prop := ∀ x ∈ R, x.id = idK x.kd x.b
theorem idK_len (k : Int) (b : List UInt8) : (idK k b).length = 40 := by
 unfold idK
 rw [← Lib.size_eq, strOfNums_size, hexL_len, shaAll_eq, shaTo_len]
theorem HasK.len {R : List Kn} {k : Int} {d : Gid} (h : HasK R k d) (hR : IdR R) : d.length = 40 := by
 obtain ⟨y, hy, _, rfl⟩ := h
 rw [hR y hy, idK_len]
/-- One step of making: nothing, or one more that was not there. -/
def MadeStep (R R' : List Kn) : Prop := R' = R ∨ ∃ x, R' = R ++ [x] ∧ getK R x.id = none ∧ x.id = idK x.kd x.b ∧ MadeIn R x ∧ x.b.length ≤ 2000
end Go.Proofs.YtihanglnjghcfaaGreatDoor
namespace Go.Proofs.YtihanglnjghcfaaGreatDoor
open Go.RowKit Go.Maps
set_option linter.unusedVariables false
set_option linter.unusedSimpArgs false

/-- A made history. -/
structure MkOk (R : List Kn) : Prop where
 ids : IdR R
 one : (R.map (·.id)).Nodup
 made : ∀ x ∈ R, MadeIn R x ∧ x.b.length ≤ 2000
theorem HasK.more {R : List Kn} {k : Int} {d : Gid} (h : HasK R k d) (x : Kn) : HasK (R ++ [x]) k d := by
 obtain ⟨y, hy, h1, h2⟩ := h
 exact ⟨y, List.mem_append_left _ hy, h1, h2⟩
theorem MadeIn.more {R : List Kn} {x : Kn} (h : MadeIn R x) (z : Kn) : MadeIn (R ++ [z]) x := by
 rcases h with h | ⟨h0, u, hu, h⟩ | ⟨h0, c, N, hc, h⟩ | ⟨h0, t, P, N, ht, hP, h⟩
 · exact .inl h
 · refine .inr (.inl ⟨h0, u, hu.more z, ?_⟩)
   rcases h with h | ⟨N, t, hN, ht, h⟩
   · exact .inl h
   · exact .inr ⟨N, t, hN, ht.more z, h⟩
 · exact .inr (.inr (.inl ⟨h0, c, N, hc.more z, h⟩))
 · exact .inr (.inr (.inr ⟨h0, t, P, N, ht.more z, fun p hp => (hP p hp).more z, h⟩))
theorem getK_none {R : List Kn} {d : Gid} (h : getK R d = none) : ∀ x ∈ R, x.id ≠ d := fun x hx he => by
 unfold getK at h
 rw [List.find?_eq_none] at h
 exact h x hx (by simp [he])
theorem MkOk.step {R R' : List Kn} (h : MkOk R) (hs : MadeStep R R') : MkOk R' ∧ R'.length ≤ R.length + 1 := by
 rcases hs with rfl | ⟨x, rfl, hg, hid, hm, hb⟩
 · exact ⟨h, by omega⟩
 · refine ⟨⟨?_, ?_, ?_⟩, by simp⟩
   · intro y hy
     rcases List.mem_append.1 hy with hy | hy
     · exact h.ids y hy
     · rw [List.mem_singleton.1 hy]; exact hid
   · rw [List.map_append, List.nodup_append]
     refine ⟨h.one, by simp, fun a ha b hb => ?_⟩
     obtain ⟨y, hy, rfl⟩ := List.mem_map.1 ha
     simp at hb
     subst hb
     exact getK_none hg y hy
   · intro y hy
     rcases List.mem_append.1 hy with hy | hy
     · exact ⟨(h.made y hy).1.more x, (h.made y hy).2⟩
     · rw [List.mem_singleton.1 hy]; exact ⟨hm.more x, hb⟩
theorem MkOk.nil : MkOk [] := ⟨fun x hx => by simp at hx, List.Pairwise.nil, fun x hx => by simp at hx⟩
theorem RepAt.new (w : World) (vh : ByteArray) : RepAt (w.alloc (.cells #[.slice none 0 0, .slice none 0 0, .string vh, .bool false] 47)) (fun k => w.heap.size ≤ k) w.heap.size [] := by
 refine ⟨Nat.le_refl _, none, 0, .slice none 0 0, .string vh, false, ?_, OwnS.nil _ _ _ _, fun k hk => by simp [Value.ownBlock] at hk⟩
 exact Cel.new w _ #[.slice none 0 0, .slice none 0 0, .string vh, .bool false] _ (fun i hi => by
  have : i = 0 ∨ i = 1 ∨ i = 2 ∨ i = 3 := by simp at hi; omega
  rcases this with rfl | rfl | rfl | rfl <;> rfl)
end Go.Proofs.YtihanglnjghcfaaGreatDoor
namespace Go.Proofs.YtihanglnjghcfaaGreatDoor
open Go.RowKit Go.Maps
set_option linter.unusedVariables false
set_option linter.unusedSimpArgs false

def CheckPost (St : (Nat → Prop) → List Gid → World → Prop) (F : Nat → Prop) (qs : List Gid) (R : Except Int (List Git)) (w : World) (e : Ending) (w' : World) : Prop :=
 (∃ F' qs', St F' (qs ++ qs') w' ∧ Chg F w w' ∧ (∀ k, F' k → F k ∨ w.heap.size ≤ k)) ∧ e = .returned (.int .i64 (match R with | .error x => x | .ok _ => 0))
set_option maxRecDepth 100000 in
theorem check_any (hSo : SortsS) {f : FuncId} {c1 c2 : Value} {G : Gid → Option Kn} {St : (Nat → Prop) → List Gid → World → Prop} (hg : Getter f c1 c2 G St) {U : List Gid} (hU : Univ G U) (F : Nat → Prop) (qs : List Gid) (w : World) (A : Option Addr) (n c : Nat) (rs : List Gid) (most : Int)
 (hS : St F qs w) (hE : EnvO w) (h1 : ¬ F 1) (h2 : ¬ F 2) (hR : StrsAt w A (rs.map bk)) (hn : rs.length = n) (hl : n ≤ 268435456) (hs : ∀ r ∈ rs, r.length ≤ 1099511627776) (hrU : ∀ r ∈ rs, r ∈ U) :
 Calls Tryz.prog 20 #[fnV f c1 c2, .slice A n c, .int .i64 most] w (CheckPost St F qs (closR G U rs most) w) := by
 have HC := Lib.hid (closure_any hSo hg hU F qs w A n c rs most hS hE h1 h2 hR hn hl hs hrU)
 clear hg hU hS hE h1 h2 hR hn hl hs hrU
 generalize closR G U rs most = R at *
 unfold fnV at *
 go_enter Tryz.func20, Tryz.ntmps20
 go_wp2_with fail
 refine HC.out.mono ?_
 rintro e w1 ⟨F', qs', hs, _, hc, hf, ha⟩
 cases R with
 | error x =>
  obtain rfl := ha
  have HF := Lib.hid (And.intro hs (And.intro hc hf))
  clear hs hc hf
  go_wp2
  go_ret
  exact ⟨⟨F', qs', HF.out.1, HF.out.2.1, HF.out.2.2⟩, rfl⟩
 | ok m =>
  obtain ⟨A2, rfl, _⟩ := ha
  have HF := Lib.hid (And.intro hs (And.intro hc hf))
  clear hs hc hf
  go_wp2
  go_ret
  exact ⟨⟨F', qs', HF.out.1, HF.out.2.1, HF.out.2.2⟩, rfl⟩
/-- The fixed history. -/
def awR : List Kn := [⟨2, [], et_d⟩, ⟨1, ec_b, ec_d⟩]
theorem aw_one : addK [] 2 [] = [⟨2, [], et_d⟩] := by
 unfold addK
 rw [show idK 2 [] = et_d from et_id]
 rfl
theorem aw_two : addK [⟨2, [], et_d⟩] 1 ec_b = awR := by
 unfold addK
 rw [ec_id]
 have : getK [⟨2, [], et_d⟩] ec_d = none := by
  unfold getK
  rw [List.find?_eq_none]
  intro x hx
  simp at hx
  subst hx
  simp
  exact ec_ne
 rw [this]
 rfl
theorem aw_lk1 : lkOf 1 ec_b = some [⟨bk et_d, 2⟩] := by kernel_rfl
theorem aw_lk2 : lkOf 2 [] = some [] := by kernel_rfl
theorem aw_bytes : strOfNums (commitL (bk et_d) [] perW perW ⟨#[]⟩) = bk ec_b := by kernel_rfl
theorem aw_get {d : Gid} {o : Kn} (h : withoutK awR [] d = some o) : o = ⟨2, [], et_d⟩ ∨ o = ⟨1, ec_b, ec_d⟩ := by
 unfold withoutK at h
 split at h
 · cases h
 · have := List.mem_of_find?_eq_some h
   simpa [awR] using this
theorem aw_univ : Univ (withoutK awR []) [ec_d, et_d] where
 num := by simp
 sz := fun d o h => by
  rcases aw_get h with rfl | rfl
  · simp
  · show ec_b.length ≤ _; decide
 lk := fun d o ks h hk k hkm => by
  rcases aw_get h with rfl | rfl
  · rw [show lkOf 2 [] = some [] from aw_lk2] at hk
    injection hk with hk; subst hk; simp at hkm
  · rw [show lkOf 1 ec_b = _ from aw_lk1] at hk
    injection hk with hk; subst hk; simp at hkm
    subst hkm
    show (bk et_d).data.toList ∈ _
    rw [bk_list]; simp
theorem aw_clos9 : closR (withoutK awR []) [ec_d, et_d] [ec_d] 9 = .ok [⟨ec_d, 1⟩, ⟨et_d, 2⟩] := by kernel_rfl
theorem aw_clos1 : closR (withoutK awR []) [ec_d, et_d] [ec_d] 1 = .error 5 := by kernel_rfl
end Go.Proofs.YtihanglnjghcfaaGreatDoor
namespace Go.Proofs.YtihanglnjghcfaaGreatDoor
open Go.RowKit Go.Maps
set_option linter.unusedVariables false
set_option linter.unusedSimpArgs false

theorem StrsAt.one (w : World) (d : Gid) : StrsAt (w.alloc (.cells #[.string (bk d)] 9)) (some ⟨w.heap.size, 0, none⟩) ([d].map bk) := fun _ =>
 ⟨w.heap.size, 0, rfl, by simp, fun i s hi => by
  have : i = 0 := by have := (List.getElem?_eq_some_iff.1 hi).1; simp at this; exact this
  subst this
  simp at hi
  subst hi
  rw [World.cell?_alloc_at _ _ _ _ (by simp)]; rfl⟩
/-- The closure by way of the law's Get. -/
theorem clos_get (hSo : SortsS) {B r b1 b2 : Nat} {W : World} {R : List Kn} {gone : Gid} {U : List Gid} (hU : Univ (withoutK R gone) U) (hR : RepAt W (fun k => B ≤ k) r R) (hl : R.length ≤ 1073741824) (hE : EnvO W)
 (ht : 1 < B ∧ 2 < B) (hB : B ≤ W.heap.size) (h1 : B ≤ b1) (h2 : B ≤ b2) (k1 : W.cell? ⟨b1, 0, none⟩ = some (.pointer (some ⟨r, 0, none⟩))) (k2 : W.cell? ⟨b2, 0, none⟩ = some (.string (bk gone))) (hz : ∀ x ∈ R, x.b.length ≤ 268435456)
 (A : Option Addr) (n c : Nat) (rs : List Gid) (most : Int) (hS : StrsAt W A (rs.map bk)) (hn : rs.length = n) (hln : n ≤ 268435456) (hs : ∀ r ∈ rs, r.length ≤ 1099511627776) (hrU : ∀ r ∈ rs, r ∈ U) :
 Calls Tryz.prog 16 #[fnV 38 (.pointer (some ⟨b1, 0, none⟩)) (.pointer (some ⟨b2, 0, none⟩)), .slice A n c, .int .i64 most] W fun e w' =>
  RepAt w' (fun k => B ≤ k) r R ∧ Chg (fun k => B ≤ k) W w' ∧ ClosAns (closR (withoutK R gone) U rs most) W w' e := by
 have hst : GetSt r b1 b2 R gone (fun k => B ≤ k ∧ k < W.heap.size) [] W := ⟨fun k h => h.2, hR.mono fun k hk hl => ⟨hk, hl⟩, ⟨h1, block_lt k1⟩, ⟨h2, block_lt k2⟩, k1, k2⟩
 refine (closure_any hSo (getter_get r b1 b2 R gone hl (fun x hx => by have := hz x hx; omega)) hU _ [] W A n c rs most hst hE (fun h => by have := h.1; omega) (fun h => by have := h.1; omega) hS hn hln hs hrU).mono ?_
 rintro e w' ⟨F', qs', hst', _, hc, hf, ha⟩
 refine ⟨hst'.2.1.mono fun k hk _ => ?_, hc.mono fun k _ h => h.1, ha⟩
 rcases hf k hk with h | h
 · exact h.1
 · omega
theorem check_get (hSo : SortsS) {B r b1 b2 : Nat} {W : World} {R : List Kn} {gone : Gid} {U : List Gid} (hU : Univ (withoutK R gone) U) (hR : RepAt W (fun k => B ≤ k) r R) (hl : R.length ≤ 1073741824) (hE : EnvO W)
 (ht : 1 < B ∧ 2 < B) (hB : B ≤ W.heap.size) (h1 : B ≤ b1) (h2 : B ≤ b2) (k1 : W.cell? ⟨b1, 0, none⟩ = some (.pointer (some ⟨r, 0, none⟩))) (k2 : W.cell? ⟨b2, 0, none⟩ = some (.string (bk gone))) (hz : ∀ x ∈ R, x.b.length ≤ 268435456)
 (A : Option Addr) (n c : Nat) (rs : List Gid) (most : Int) (hS : StrsAt W A (rs.map bk)) (hn : rs.length = n) (hln : n ≤ 268435456) (hs : ∀ r ∈ rs, r.length ≤ 1099511627776) (hrU : ∀ r ∈ rs, r ∈ U) :
 Calls Tryz.prog 20 #[fnV 38 (.pointer (some ⟨b1, 0, none⟩)) (.pointer (some ⟨b2, 0, none⟩)), .slice A n c, .int .i64 most] W fun e w' =>
  RepAt w' (fun k => B ≤ k) r R ∧ Chg (fun k => B ≤ k) W w' ∧ e = .returned (.int .i64 (match closR (withoutK R gone) U rs most with | .error x => x | .ok _ => 0)) := by
 have hst : GetSt r b1 b2 R gone (fun k => B ≤ k ∧ k < W.heap.size) [] W := ⟨fun k h => h.2, hR.mono fun k hk hl => ⟨hk, hl⟩, ⟨h1, block_lt k1⟩, ⟨h2, block_lt k2⟩, k1, k2⟩
 refine (check_any hSo (getter_get r b1 b2 R gone hl (fun x hx => by have := hz x hx; omega)) hU _ [] W A n c rs most hst hE (fun h => by have := h.1; omega) (fun h => by have := h.1; omega) hS hn hln hs hrU).mono ?_
 rintro e w' ⟨⟨F', qs', hst', hc, hf⟩, ha⟩
 refine ⟨hst'.2.1.mono fun k hk _ => ?_, hc.mono fun k _ h => h.1, ha⟩
 rcases hf k hk with h | h
 · exact h.1
 · omega
set_option maxRecDepth 100000 in
set_option maxHeartbeats 4000000 in
theorem awake_any (hSo : SortsS) (w : World) (hE : EnvO w) : Calls Tryz.prog 11 #[] w fun e w' => e = .returned (.bool true) ∧ Below w.heap.size w w' := by
 have HSO := Lib.hid hSo
 have HE := Lib.hid hE
 have HLT := Lib.hid hE.lt
 have hR0 := RepAt.new w ⟨#[]⟩
 have hB0 : Below w.heap.size w (w.alloc (.cells #[.slice none 0 0, .slice none 0 0, .string ⟨#[]⟩, .bool false] 47)) := (Below.refl _ _).alloc (Nat.le_refl _) _
 clear hSo hE
 go_enter Tryz.func11, Tryz.ntmps11
 go_upto_region 2 with (fail)
 generalize w.alloc (.cells #[.slice none 0 0, .slice none 0 0, .string ⟨#[]⟩, .bool false] 47) = w1 at *
 have HR0 := Lib.hid hR0
 have HB0 := Lib.hid hB0
 clear hR0 hB0
 have HA1 := radd_any (fun k => w.heap.size ≤ k) w.heap.size [] 2 [] w1 HR0.out (fun k hk => by have := HB0.out.size; omega) (by simp) (by simp)
 have HA1 := Lib.hid HA1
 unfold AddK at HA1
 rw [aw_one, show idK 2 [] = et_d from et_id, show bk [] = ⟨#[]⟩ from rfl] at HA1
 go_wp2_with fail
 refine HA1.out.mono ?_
 rintro e w2 ⟨rfl, hr2, hc2⟩
 have HR2 := Lib.hid hr2
 have HB2 := Lib.hid (HB0.out.trans (hc2.below HB0.out.size (fun k hk h => by have h2 : w.heap.size ≤ k := h; omega)))
 clear hr2 hc2 HA1
 have HREF := Lib.hid (refCommit_any ⟨#[]⟩ (.slice none 0 0) (bk et_d) none 0 0 [] perW perW ⟨#[]⟩ ⟨#[]⟩ 0 ⟨#[]⟩ ⟨#[]⟩ w2 StrsAt.nil rfl (by decide) (by decide +kernel))
 rw [aw_bytes] at HREF
 unfold perW at HREF
 go_wp2_with fail
 refine HREF.out.mono ?_
 rintro e w3 ⟨rfl, hb3⟩
 have HB3 := Lib.hid (HB2.out.trans (hb3.mono HB2.out.size))
 have HA2 := radd_any (fun k => w.heap.size ≤ k) w.heap.size [⟨2, [], et_d⟩] 1 ec_b w3 (HR2.out.below hb3) (fun k hk => by have := HB3.out.size; omega) (by simp) (by decide)
 have HA2 := Lib.hid HA2
 unfold AddK at HA2
 rw [aw_two, ec_id] at HA2
 clear hb3 HREF
 go_wp2_with fail
 refine HA2.out.mono ?_
 rintro e w4 ⟨rfl, hr4, hc4⟩
 have HR4 := Lib.hid hr4
 have HB4 := Lib.hid (HB3.out.trans (hc4.below HB3.out.size (fun k hk h => by have h2 : w.heap.size ≤ k := h; omega)))
 clear hr4 hc4 HA2
 have HEB : Hid (∀ W, Below w.heap.size w W → EnvO W) := Lib.hid (fun W hb => HE.out.below hb)
 have HZ : Hid (∀ x ∈ awR, x.b.length ≤ 268435456) := Lib.hid (by
  intro x hx
  simp [awR] at hx
  rcases hx with rfl | rfl
  · simp
  · show ec_b.length ≤ _; decide)
 have HGT := Lib.hid (fun W => get_any W w.heap.size [])
 rw [show bk [] = ⟨#[]⟩ from rfl] at HGT
 have HCL : Hid (∀ (W W1 : World) (b1 b2 : Nat) (most : Int), Below w.heap.size w W → RepAt W (fun k => w.heap.size ≤ k) w.heap.size awR → Below W.heap.size W W1 → b1 = W.heap.size → b2 = W.heap.size + 1 → W1.cell? ⟨b1, 0, none⟩ = some (.pointer (some ⟨w.heap.size, 0, none⟩)) → W1.cell? ⟨b2, 0, none⟩ = some (.string ⟨#[]⟩) →
  Calls Tryz.prog 16 #[.func (.func 38) #[] #[.pointer (some ⟨b1, 0, none⟩), .pointer (some ⟨b2, 0, none⟩)], .slice (some ⟨W1.heap.size, 0, none⟩) 1 1, .int .i64 most] (W1.alloc (.cells #[.string (bk ec_d)] 9)) fun e w' =>
   RepAt w' (fun k => w.heap.size ≤ k) w.heap.size awR ∧ Below w.heap.size w w' ∧ ClosAns (closR (withoutK awR []) [ec_d, et_d] [ec_d] most) (W1.alloc (.cells #[.string (bk ec_d)] 9)) w' e) := Lib.hid (fun W W1 b1 b2 most hb hR hb1 e1 e2 k1 k2 => by
  have hs := hb.size
  have hal : Below W1.heap.size W1 (W1.alloc (.cells #[.string (bk ec_d)] 9)) := (Below.refl _ _).alloc (Nat.le_refl _) _
  have hbW1 : Below w.heap.size w W1 := hb.trans (hb1.mono hs)
  have hbA : Below w.heap.size w (W1.alloc (.cells #[.string (bk ec_d)] 9)) := hbW1.trans (hal.mono hbW1.size)
  refine (clos_get HSO.out (B := w.heap.size) (b1 := b1) (b2 := b2) aw_univ ((hR.below hb1).below hal) (by decide) (HEB.out _ hbA) HLT.out hbA.size (by omega) (by omega) ((hal.cell (block_lt k1)).trans k1) ((hal.cell (block_lt k2)).trans k2) HZ.out _ 1 1 [ec_d] most (StrsAt.one W1 ec_d) rfl (by decide) (by intro q hq; simp at hq; subst hq; decide) (by simp)).mono ?_
  rintro e w' ⟨hR', hc', ha⟩
  exact ⟨hR', hbA.trans (hc'.below hbA.size (fun k hk h => by omega)), ha⟩)
 have HCH : Hid (∀ (W W1 : World) (b1 b2 : Nat) (most : Int), Below w.heap.size w W → RepAt W (fun k => w.heap.size ≤ k) w.heap.size awR → Below W.heap.size W W1 → b1 = W.heap.size → b2 = W.heap.size + 1 → W1.cell? ⟨b1, 0, none⟩ = some (.pointer (some ⟨w.heap.size, 0, none⟩)) → W1.cell? ⟨b2, 0, none⟩ = some (.string ⟨#[]⟩) →
  Calls Tryz.prog 20 #[.func (.func 38) #[] #[.pointer (some ⟨b1, 0, none⟩), .pointer (some ⟨b2, 0, none⟩)], .slice (some ⟨W1.heap.size, 0, none⟩) 1 1, .int .i64 most] (W1.alloc (.cells #[.string (bk ec_d)] 9)) fun e w' =>
   Below w.heap.size w w' ∧ e = .returned (.int .i64 (match closR (withoutK awR []) [ec_d, et_d] [ec_d] most with | .error x => x | .ok _ => 0))) := Lib.hid (fun W W1 b1 b2 most hb hR hb1 e1 e2 k1 k2 => by
  have hs := hb.size
  have hal : Below W1.heap.size W1 (W1.alloc (.cells #[.string (bk ec_d)] 9)) := (Below.refl _ _).alloc (Nat.le_refl _) _
  have hbW1 : Below w.heap.size w W1 := hb.trans (hb1.mono hs)
  have hbA : Below w.heap.size w (W1.alloc (.cells #[.string (bk ec_d)] 9)) := hbW1.trans (hal.mono hbW1.size)
  refine (check_get HSO.out (B := w.heap.size) (b1 := b1) (b2 := b2) aw_univ ((hR.below hb1).below hal) (by decide) (HEB.out _ hbA) HLT.out hbA.size (by omega) (by omega) ((hal.cell (block_lt k1)).trans k1) ((hal.cell (block_lt k2)).trans k2) HZ.out _ 1 1 [ec_d] most (StrsAt.one W1 ec_d) rfl (by decide) (by intro q hq; simp at hq; subst hq; decide) (by simp)).mono ?_
  rintro e w' ⟨hR', hc', ha⟩
  exact ⟨hbA.trans (hc'.below hbA.size (fun k hk h => by omega)), ha⟩)
 unfold fnV at HGT
 have H9 := HCL.out
 go_wp2_with fail
 refine (HGT.out w4).mono ?_
 rintro e w5 ⟨rfl, hb5, k51, k52⟩
 have HCL5 := Lib.hid (HCL.out w4 w5 w4.heap.size (w4.heap.size + 1) 9 HB4.out HR4.out hb5 rfl rfl k51 k52)
 rw [aw_clos9] at HCL5
 clear hb5 k51 k52 H9
 go_wp2_with fail
 refine HCL5.out.mono ?_
 rintro e w6 ⟨hr6, hb6, A6, rfl, _⟩
 have HR6 := Lib.hid hr6
 have HB6 := Lib.hid hb6
 clear hr6 hb6 HCL5
 go_wp2_with fail
 refine (HGT.out w6).mono ?_
 rintro e w7 ⟨rfl, hb7, k71, k72⟩
 have HCL7 := Lib.hid (HCL.out w6 w7 w6.heap.size (w6.heap.size + 1) 1 HB6.out HR6.out hb7 rfl rfl k71 k72)
 rw [aw_clos1] at HCL7
 clear hb7 k71 k72
 go_wp2_with fail
 refine HCL7.out.mono ?_
 rintro e w8 ⟨hr8, hb8, rfl⟩
 have HR8 := Lib.hid hr8
 have HB8 := Lib.hid hb8
 clear hr8 hb8 HCL7
 go_wp2_with fail
 refine (HGT.out w8).mono ?_
 rintro e w9 ⟨rfl, hb9, k91, k92⟩
 have HCL9 := Lib.hid (HCH.out w8 w9 w8.heap.size (w8.heap.size + 1) 9 HB8.out HR8.out hb9 rfl rfl k91 k92)
 rw [aw_clos9] at HCL9
 clear hb9 k91 k92
 go_wp2_with fail
 refine HCL9.out.mono ?_
 rintro e w10 ⟨hb10, rfl⟩
 have HB10 := Lib.hid hb10
 clear hb10 HCL9
 go_wp2
 go_ret
 exact ⟨rfl, HB10.out⟩
end Go.Proofs.YtihanglnjghcfaaGreatDoor
namespace Go.Proofs.YtihanglnjghcfaaGreatDoor
open Go.RowKit Go.Maps
set_option linter.unusedVariables false
set_option linter.unusedSimpArgs false

theorem getK_mem {R : List Kn} {d : Gid} {o : Kn} (h : getK R d = some o) : o ∈ R := List.mem_of_find?_eq_some h
end Go.Proofs.YtihanglnjghcfaaGreatDoor
namespace Go.Proofs.YtihanglnjghcfaaGreatDoor
open Go.RowKit Go.Maps
set_option linter.unusedVariables false
set_option linter.unusedSimpArgs false

theorem atG_mem {l : List Git} {d : Gid} : (atG l d).isSome = true ↔ d ∈ l.map (·.id) := by
 constructor
 · intro h
   obtain ⟨i, hi⟩ := Option.isSome_iff_exists.1 h
   obtain ⟨x, hx, rfl⟩ := atG_lt hi
   exact List.mem_map_of_mem (List.mem_of_getElem? hx)
 · intro h
   cases hn : atG l d with
   | some i => rfl
   | none =>
    obtain ⟨x, hx, he⟩ := List.mem_map.1 h
    exact absurd he (atG_none.1 hn x hx)
theorem add0_ids (l : List Git) (p : Gid) : (addG l ⟨p, 0⟩).1.map (·.id) = if p ∈ l.map (·.id) then l.map (·.id) else l.map (·.id) ++ [p] := by
 unfold addG
 dsimp only
 cases hat : atG l p with
 | none =>
  rw [if_neg (fun h => by have := atG_mem.2 h; rw [hat] at this; cases this)]
  simp
 | some i =>
  rw [if_pos (atG_mem.1 (by rw [hat]; rfl))]
  dsimp only
  split
  · rw [modify_ids]
  · rfl
/-- The parents laid into the walk's list. -/
def parsW (l : List Git) : List Gid → List Git
 | [] => l
 | p :: ps => parsW (addG l ⟨p, 0⟩).1 ps
theorem parsW_ids : ∀ (ps : List Gid) (l : List Git), (parsW l ps).map (·.id) = parG (l.map (·.id)) ps
 | [], l => rfl
 | p :: ps, l => by
  unfold parsW parG
  rw [parsW_ids ps, add0_ids]
theorem parsW_one : ∀ (ps : List Gid) (l : List Git), OneG l → OneG (parsW l ps)
 | [], l, h => h
 | p :: ps, l, h => by unfold parsW; exact parsW_one ps _ (addG_one h _)
theorem parsW_sub {U : List Gid} : ∀ (ps : List Gid) (l : List Git), SubU U l → (∀ p ∈ ps, p ∈ U) → SubU U (parsW l ps)
 | [], l, h, _ => h
 | p :: ps, l, h, hp => by
  unfold parsW
  refine parsW_sub ps _ (fun x hx => ?_) fun q hq => hp q (List.mem_cons_of_mem _ hq)
  rcases addG_ids hx with h1 | h1
  · obtain ⟨z, hz, he⟩ := List.mem_map.1 h1
    rw [← he]; exact h z hz
  · rw [h1]; exact hp p (by simp)
/-- A commit's parents are among what it hangs on. -/
theorem pa_lk {kd : Int} {b : List UInt8} {ps : List Gid} (h : paOf kd b = some ps) : ∃ ks, lkOf kd b = some ks ∧ ∀ p ∈ ps, ∃ k ∈ ks, k.id = bk p := by
 unfold paOf at h
 split at h
 · rename_i h1
   obtain ⟨r, hr, rfl⟩ := Option.map_eq_some_iff.1 h
   refine ⟨comK (bk r.t) (r.P.map bk), by unfold lkOf; rw [if_pos h1, hr]; rfl, fun p hp => ?_⟩
   refine ⟨⟨bk p, 1⟩, ?_, rfl⟩
   unfold comK
   simp only [List.mem_cons, List.mem_map]
   exact .inr ⟨bk p, ⟨p, hp, rfl⟩, rfl⟩
 · cases h
theorem Univ.pa {G : Gid → Option Kn} {U : List Gid} (hu : Univ G U) {d : Gid} {o : Kn} {ps : List Gid} (hg : G d = some o) (h : paOf o.kd o.b = some ps) : ∀ p ∈ ps, p ∈ U := by
 obtain ⟨ks, hk, hp⟩ := pa_lk h
 intro p hpp
 obtain ⟨k, hk1, e⟩ := hp p hpp
 have := hu.lk d o ks hg hk k hk1
 rw [e, bk_list] at this
 exact this
theorem pa_num {kd : Int} {b : List UInt8} {ps : List Gid} (h : paOf kd b = some ps) : ps.length ≤ b.length := by
 unfold paOf at h
 split at h
 · obtain ⟨r, hr, rfl⟩ := Option.map_eq_some_iff.1 h
   exact commit_num hr
 · cases h
theorem pa_each {kd : Int} {b : List UInt8} {ps : List Gid} (h : paOf kd b = some ps) : ∀ p ∈ ps, p.length ≤ b.length + 40 := by
 intro p hp
 obtain ⟨ks, hk, hpp⟩ := pa_lk h
 obtain ⟨k, hk1, e⟩ := hpp p hp
 have := lkOf_each hk k hk1
 rw [e, bk_size] at this
 exact this
theorem tc_com (a : Value) (b c d e : Value) (W : World) : (Instr.typeAssert (.iface 103 (.agg #[a, b, c, d, e])) 92 103 true).run Tryz.prog W = .ok (.tuple #[.agg #[a, b, c, d, e], .bool true]) W := by kernel_rfl
theorem tc_tre (a : Value) (W : World) : (Instr.typeAssert (.iface 164 (.agg #[a])) 92 103 true).run Tryz.prog W = .ok (.tuple #[.agg #[.string ⟨#[]⟩, .slice none 0 0, .string ⟨#[]⟩, .string ⟨#[]⟩, .string ⟨#[]⟩], .bool false]) W := by kernel_rfl
theorem tc_blo (a : Value) (W : World) : (Instr.typeAssert (.iface 148 (.agg #[a])) 92 103 true).run Tryz.prog W = .ok (.tuple #[.agg #[.string ⟨#[]⟩, .slice none 0 0, .string ⟨#[]⟩, .string ⟨#[]⟩, .string ⟨#[]⟩], .bool false]) W := by kernel_rfl
theorem tc_tag (a : Value) (b c d e : Value) (W : World) : (Instr.typeAssert (.iface 96 (.agg #[a, b, c, d, e])) 92 103 true).run Tryz.prog W = .ok (.tuple #[.agg #[.string ⟨#[]⟩, .slice none 0 0, .string ⟨#[]⟩, .string ⟨#[]⟩, .string ⟨#[]⟩], .bool false]) W := by kernel_rfl
/-- No commit: how it is told. -/
theorem ObjIs.noCom {w : World} {B : Nat} {kd : Int} {b : List UInt8} {IF : Value} (h : ObjIs w B kd b IF) (hk : kd ≠ 1) (W : World) :
 (Instr.typeAssert IF 92 103 true).run Tryz.prog W = .ok (.tuple #[.agg #[.string ⟨#[]⟩, .slice none 0 0, .string ⟨#[]⟩, .string ⟨#[]⟩, .string ⟨#[]⟩], .bool false]) W := by
 rcases h with ⟨h1, _⟩ | ⟨rfl, L, A, hL, rfl, ho⟩ | ⟨rfl, v, rfl⟩ | ⟨rfl, r, hr, rfl⟩
 · exact absurd h1 hk
 · exact tc_tre _ W
 · exact tc_blo _ W
 · exact tc_tag _ _ _ _ _ W
theorem paOf_no {kd : Int} {b : List UInt8} (h : kd ≠ 1) : paOf kd b = none := by unfold paOf; rw [if_neg h]
theorem paOf_none {kd : Int} {b : List UInt8} (h : lkOf kd b = none) : paOf kd b = none := by
 cases hp : paOf kd b with
 | none => rfl
 | some ps =>
  obtain ⟨ks, hk, _⟩ := pa_lk hp
  rw [h] at hk; cases hk
/-- What Ancestor answers. -/
def ancV : Except Int Bool → Value
 | .ok b => .tuple #[.bool b, .int .i64 0]
 | .error x => .tuple #[.bool false, .int .i64 x]
/-- Ancestor, the program's way, with rounds enough. -/
def ancR (G : Gid → Option Kn) (U : List Gid) (most : Int) (a b : Gid) : Except Int Bool := ancP (gobG G) most a (U.length + 1) 0 [b]
section
variable {G : Gid → Option Gob} {most : Int} {a : Gid} {n i : Nat} {l : List Gid}
theorem ancP_end (h : l.length ≤ i) : ancP G most a n i l = .ok false := by
 cases n with
 | zero => rfl
 | succ n => unfold ancP; rw [List.getElem?_eq_none h]
theorem ancP_in (h : i < l.length) (ha : a ∈ l) : ancP G most a (n + 1) i l = .ok true := by
 unfold ancP; rw [List.getElem?_eq_getElem h]; dsimp only; rw [if_pos ha]
theorem ancP_big (h : i < l.length) (ha : a ∉ l) (hb : max most 0 ≤ (i : Int)) : ancP G most a (n + 1) i l = .error 5 := by
 unfold ancP; rw [List.getElem?_eq_getElem h]; dsimp only; rw [if_neg ha, if_pos hb]
theorem ancP_none {d : Gid} (h : l[i]? = some d) (ha : a ∉ l) (hb : ¬ max most 0 ≤ (i : Int)) (hg : G d = none) : ancP G most a (n + 1) i l = .error 61 := by
 unfold ancP; rw [h]; dsimp only; rw [if_neg ha, if_neg (by exact hb), hg]
theorem ancP_bad {d : Gid} {o : Gob} (h : l[i]? = some d) (ha : a ∉ l) (hb : ¬ max most 0 ≤ (i : Int)) (hg : G d = some o) (hp : o.pa = none) : ancP G most a (n + 1) i l = .error 3 := by
 unfold ancP; rw [h]; dsimp only; rw [if_neg ha, if_neg (by exact hb), hg]; dsimp only; rw [hp]
theorem ancP_step {d : Gid} {o : Gob} {ps : List Gid} (h : l[i]? = some d) (ha : a ∉ l) (hb : ¬ max most 0 ≤ (i : Int)) (hg : G d = some o) (hp : o.pa = some ps) : ancP G most a (n + 1) i l = ancP G most a n (i + 1) (parG l ps) := by
 conv => lhs; unfold ancP
 rw [h]; dsimp only; rw [if_neg ha, if_neg (by exact hb), hg]; dsimp only; rw [hp]
end
end Go.Proofs.YtihanglnjghcfaaGreatDoor
