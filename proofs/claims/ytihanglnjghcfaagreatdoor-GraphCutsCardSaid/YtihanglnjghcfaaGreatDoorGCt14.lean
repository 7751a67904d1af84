/- All that hangs on some objects: the program's Closure, Check. -/
import Derived.Test.YtihanglnjghcfaaGreatDoorGCt13
import Derived.Test.YtihanglnjghcfaaGreatDoorGCt3
import Derived.Maps.Range
import Derived.Test.YtihanglnjghcfaaGreatDoorGCt11
import Derived.Test.YtihanglnjghcfaaGreatDoorGCt12
import Derived.Test.YtihanglnjghcfaaGreatDoorGCt7
namespace Go.Proofs.YtihanglnjghcfaaGreatDoor
open Go.RowKit Go.Maps
set_option linter.unusedVariables false
set_option linter.unusedSimpArgs false

/-- What the closure answers. -/
def ClosAns (R : Except Int (List Git)) (w w' : World) (e : Ending) : Prop :=
 match R with
 | .error x => e = .returned (.tuple #[.slice none 0 0, .int .i64 x])
 | .ok m => ∃ A, e = .returned (.tuple #[.slice A m.length m.length, .int .i64 0]) ∧ OwnS w' w.heap.size 9 1 (.slice A m.length m.length) m.length (strVs (sortG (m.map (·.id))))
def ClosPost (St : (Nat → Prop) → List Gid → World → Prop) (F : Nat → Prop) (qs : List Gid) (R : Except Int (List Git)) (w : World) (e : Ending) (w' : World) : Prop :=
 ∃ F' qs', St F' (qs ++ qs') w' ∧ qs'.Nodup ∧ Chg F w w' ∧ (∀ k, F' k → F k ∨ w.heap.size ≤ k) ∧ ClosAns R w w' e
/-- What the walk keeps from round to round. -/
structure ClosI (St : (Nat → Prop) → List Gid → World → Prop) (F : Nat → Prop) (qs U : List Gid) (G : Gid → Option Kn) (rs : List Gid) (most : Int) (get : Value) (w : World) (g i : Nat) (l : List Git) (F1 : Nat → Prop) (wr : World) : Prop where
 st : St F1 (qs ++ (l.map (·.id)).take i) wr
 sub : ∀ k, F1 k → F k ∨ w.heap.size ≤ k
 chg : Chg F w wr
 at' : WalkAt wr (KOf w.heap.size F1) g get false l
 eq : closR G U rs most = goG (gobG G) most (U.length + 1 - i) i l
 one : OneG l
 inU : SubU U l
 le : i ≤ l.length
theorem EnvO.lt {w : World} (h : EnvO w) : 1 < w.heap.size ∧ 2 < w.heap.size :=
 ⟨block_lt (h.tabs.1 0 (by decide)), block_lt (a := ⟨2, 2 * 0, none⟩) (h.tabs.2 0 (by decide)).1⟩
set_option maxRecDepth 100000 in
set_option maxHeartbeats 4000000 in
theorem closure_any (hSo : SortsS) {f : FuncId} {c1 c2 : Value} {G : Gid → Option Kn} {St : (Nat → Prop) → List Gid → World → Prop} (hg : Getter f c1 c2 G St) {U : List Gid} (hU : Univ G U) (F : Nat → Prop) (qs : List Gid) (w : World) (A : Option Addr) (n c : Nat) (rs : List Gid) (most : Int)
 (hS : St F qs w) (hE : EnvO w) (h1 : ¬ F 1) (h2 : ¬ F 2) (hR : StrsAt w A (rs.map bk)) (hn : rs.length = n) (hl : n ≤ 268435456) (hs : ∀ r ∈ rs, r.length ≤ 1099511627776) (hrU : ∀ r ∈ rs, r ∈ U) :
 Calls Tryz.prog 16 #[fnV f c1 c2, .slice A n c, .int .i64 most] w (ClosPost St F qs (closR G U rs most) w) := by
 have HBE := Lib.hid (begin_any f c1 c2 A n c rs w hR hn hl hs)
 have HG := Lib.hid hg
 have HU := Lib.hid hU
 have HE := Lib.hid hE
 have HT := Lib.hid (And.intro hE.lt.1 (And.intro hE.lt.2 (And.intro h1 h2)))
 have HS0 := Lib.hid hS
 have HLO := Lib.hid (hg.low hS)
 have HRU := Lib.hid hrU
 have HSO := Lib.hid hSo
 clear hg hU hS hE h1 h2 hR hn hl hs hrU hSo
 unfold fnV at *
 go_enter Tryz.func16, Tryz.ntmps16
 go_wp2_with fail
 refine HBE.out.mono ?_
 rintro e w1 ⟨hb1, g, rfl, hw1⟩
 have HI0 : Hid (ClosI St F qs U G rs most (.func (.func f) #[] #[c1, c2]) w g 0 (rootsP [] rs) F w1) := Lib.hid {
  st := by simpa using HG.out.keep HS0.out (Chg.of_below (S := fun k => w.heap.size ≤ k) hb1) (fun k hk => Nat.not_le.2 (HLO.out k hk))
  sub := fun k hk => .inl hk
  chg := Chg.of_below hb1
  at' := hw1.keep (Chg.refl (fun _ => False) _) (fun _ _ _ h => h) (fun k hk _ => ⟨hk, fun h => by have := HLO.out k h; omega⟩)
  eq := rfl
  one := rootsP_one rs [] List.Pairwise.nil
  inU := rootsP_sub rs [] (fun x hx => by simp at hx) HRU.out
  le := Nat.zero_le _ }
 clear hb1 hw1
 go_wp2
 go_loopw [9] (fun vn wr => ∃ (i : Nat) (l : List Git) (F1 : Nat → Prop), vn = .int .i64 i ∧ ClosI St F qs U G rs most (.func (.func f) #[] #[c1, c2]) w g i l F1 wr) (fun vn _ => U.length - (intOf vn).toNat)
 case atStart => exact ⟨0, _, _, rfl, HI0.out⟩
 case round =>
  obtain ⟨i, l, F1, rfl, hI⟩ := hrel
  have HI := Lib.hid hI
  obtain ⟨_, A2, c2', _, _, hce, _⟩ := hI.at'
  have k1 : wr.cell? ⟨g, 1, none⟩ = some (.slice A2 l.length c2') := hce.cell 1 (by decide)
  have hlu := sub_len hI.one hI.inU
  have HLU := Lib.hid (And.intro hlu HU.out.num)
  clear hI hce hlu
  by_cases hlt : i < l.length
  · have d1 : decide ((i : Int) < (l.length : Int)) = true := decide_eq_true (by omega)
    have d1' : decide (i < l.length) = true := decide_eq_true hlt
    have HLT := Lib.hid hlt
    obtain ⟨M, hM⟩ : ∃ M, max most 0 = M := ⟨_, rfl⟩
    have HM : Hid (max most 0 = M) := Lib.hid hM
    by_cases hb : M ≤ (i : Int)
    · have d2 : decide (M ≤ (i : Int)) = true := decide_eq_true hb
      have HRES : Hid (closR G U rs most = .error 5) := Lib.hid (by rw [HI.out.eq, show U.length + 1 - i = (U.length - i) + 1 by have := HLU.out.1; omega]; exact goG_big hlt (by rw [HM.out]; exact hb))
      clear hb hlt
      go_wp2
      go_ret2
      rw [HRES.out]
      exact ⟨F1, _, HI.out.st, List.Nodup.sublist (List.take_sublist _ _) HI.out.one, HI.out.chg, HI.out.sub, rfl⟩
    · have d2 : decide (M ≤ (i : Int)) = false := decide_eq_false hb
      have HRES : Hid (closR G U rs most = if (lookW false (gobG G) l i).2 = 0 then goG (gobG G) most (U.length + 1 - (i + 1)) (i + 1) (lookW false (gobG G) l i).1 else .error (lookW false (gobG G) l i).2) := Lib.hid (by rw [HI.out.eq, show U.length + 1 - i = (U.length - i) + 1 by have := HLU.out.1; omega, show U.length + 1 - (i + 1) = U.length - i by omega]; exact goG_step hlt (by rw [HM.out]; exact hb))
      have hx : l[i]? = some l[i] := List.getElem?_eq_getElem hlt
      have HLK := Lib.hid (look_any HG.out F1 (qs ++ (l.map (·.id)).take i) wr w.heap.size g i false l l[i] HI.out.st (HE.out.chg HI.out.chg HT.out.2.2.1 HT.out.2.2.2) HT.out.1 HT.out.2.1 (fun h => by rcases HI.out.sub _ h with h | h; exact HT.out.2.2.1 h; have := HT.out.1; omega) (fun h => by rcases HI.out.sub _ h with h | h; exact HT.out.2.2.2 h; have := HT.out.2.1; omega) HI.out.chg.size HI.out.at' hx (by have := HLU.out; omega) (fun o ho => HU.out.sz _ o ho))
      have HQS : Hid (∀ t, qs ++ (l.map (·.id)).take i ++ [l[i].id] = qs ++ ((l.map (·.id)) ++ t).take (i + 1)) := Lib.hid (fun t => by
       rw [List.append_assoc]
       congr 1
       rw [List.take_append_of_le_length (by simp; omega), List.take_add_one, List.getElem?_map, hx]
       rfl)
      obtain ⟨t, ht⟩ := lookW_pre false (gobG G) l i
      have HPR := Lib.hid ht
      have HON := Lib.hid (lookW_one false (gobG G) i HI.out.one)
      have HSU := Lib.hid (lookW_sub HU.out false i HI.out.inU)
      have HLL : Hid (l.length ≤ (lookW false (gobG G) l i).1.length) := Lib.hid (by have := congrArg List.length ht; simp at this; omega)
      have hw1 : IntKind.i64.wrap ((i : Int) + 1) = (i : Int) + 1 := IntWalk.i64_in _ (by have := HLU.out; omega)
      rw [show (fun d => (G d).map gobK) = gobG G from rfl] at HLK
      unfold fnV at HLK
      unfold LookPost at HLK
      generalize l[i] = x at *
      clear hb hlt hx ht
      go_wp2_with fail
      refine HLK.out.mono ?_
      generalize lookW false (gobG G) l i = R at *
      rintro e w2 ⟨rfl, F2, hs2, hf2, hc2, hw2⟩
      obtain ⟨m, er⟩ := R
      dsimp only at *
      have HC2 : Hid (Chg F w w2) := Lib.hid (HI.out.chg.trans hc2 (fun k hk h => by
       rcases h with h | h
       · rcases HI.out.sub k h with h | h
         · exact h
         · omega
       · have := h.1; omega))
      have HF2 : Hid (∀ k, F2 k → F k ∨ w.heap.size ≤ k) := Lib.hid (fun k hk => by
       rcases hf2 k hk with h | h
       · exact HI.out.sub k h
       · have := HI.out.chg.size; exact .inr (by omega))
      have HS2 : Hid (St F2 (qs ++ (m.map (·.id)).take (i + 1)) w2) := Lib.hid (by rw [HPR.out, ← HQS.out]; exact hs2)
      have HW2 := Lib.hid hw2
      clear hs2 hf2 hc2 hw2
      by_cases h0 : er = 0
      · subst h0
        have h0 : (0 : Int) = 0 := rfl
        have HEQ : Hid (closR G U rs most = goG (gobG G) most (U.length + 1 - (i + 1)) (i + 1) m) := Lib.hid (by rw [HRES.out, if_pos h0])
        go_wp2
        go_roundw
        case rel => exact ⟨i + 1, m, F2, rfl, ⟨HS2.out, HF2.out, HC2.out, HW2.out, HEQ.out, HON.out, HSU.out, by have := HLL.out; have := HLT.out; omega⟩⟩
        case measure => have := HLU.out; have := HLT.out; simp [intOf]; omega
      · have HEQ : Hid (closR G U rs most = .error er) := Lib.hid (by rw [HRES.out, if_neg h0])
        go_wp2
        go_ret2
        rw [HEQ.out]
        exact ⟨F2, _, HS2.out, List.Nodup.sublist (List.take_sublist _ _) HON.out, HC2.out, HF2.out, rfl⟩
  · have d1 : decide ((i : Int) < (l.length : Int)) = false := decide_eq_false (by omega)
    have d1' : decide (i < l.length) = false := decide_eq_false hlt
    have HRES : Hid (closR G U rs most = .ok l) := Lib.hid (by rw [HI.out.eq]; exact goG_end (by omega))
    have HID := Lib.hid (ids_any HSO.out _ g _ false l wr HI.out.at' (by have := HLU.out; omega))
    clear hlt
    go_wp2_with fail
    refine HID.out.mono ?_
    rintro e w2 ⟨hb2, A3, rfl, ho2⟩
    have e1 : (sortG (l.map (·.id))).length = l.length := by rw [sortG_len, List.length_map]
    rw [e1] at ho2
    have HO2 := Lib.hid ho2
    have HB2 := Lib.hid hb2
    have HLW := Lib.hid (HG.out.low HI.out.st)
    have HE1 := Lib.hid e1
    clear hb2 ho2 e1
    go_wp2
    go_ret2
    rw [HRES.out]
    refine ⟨F1, _, HG.out.keep HI.out.st (Chg.of_below (S := fun k => wr.heap.size ≤ k) HB2.out) (fun k hk => Nat.not_le.2 (HLW.out k hk)), List.Nodup.sublist (List.take_sublist _ _) HI.out.one, HI.out.chg.trans (Chg.of_below (S := fun _ => False) HB2.out) (fun _ _ h => h.elim), HI.out.sub, A3, by rw [HE1.out]; rfl, HO2.out.base_ HI.out.chg.size⟩
end Go.Proofs.YtihanglnjghcfaaGreatDoor
namespace Go.Proofs.YtihanglnjghcfaaGreatDoor
open Go.RowKit Go.Maps
set_option linter.unusedVariables false
set_option linter.unusedSimpArgs false

theorem atG_mem {l : List Git} {d : Gid} : (atG l d).isSome = true ↔ d ∈ l.map (·.id) := by
 constructor
 · intro h
   obtain ⟨i, hi⟩ := Option.isSome_iff_exists.1 h
   obtain ⟨x, hx, rfl⟩ := atG_lt hi
   exact List.mem_map_of_mem (List.mem_of_getElem? hx)
 · intro h
   cases hn : atG l d with
   | some i => rfl
   | none =>
    obtain ⟨x, hx, he⟩ := List.mem_map.1 h
    exact absurd he (atG_none.1 hn x hx)
/-- A commit's parents are among what it hangs on. -/
theorem pa_lk {kd : Int} {b : List UInt8} {ps : List Gid} (h : paOf kd b = some ps) : ∃ ks, lkOf kd b = some ks ∧ ∀ p ∈ ps, ∃ k ∈ ks, k.id = bk p := by
 unfold paOf at h
 split at h
 · rename_i h1
   obtain ⟨r, hr, rfl⟩ := Option.map_eq_some_iff.1 h
   refine ⟨comK (bk r.t) (r.P.map bk), by unfold lkOf; rw [if_pos h1, hr]; rfl, fun p hp => ?_⟩
   refine ⟨⟨bk p, 1⟩, ?_, rfl⟩
   unfold comK
   simp only [List.mem_cons, List.mem_map]
   exact .inr ⟨bk p, ⟨p, hp, rfl⟩, rfl⟩
 · cases h
theorem Univ.pa {G : Gid → Option Kn} {U : List Gid} (hu : Univ G U) {d : Gid} {o : Kn} {ps : List Gid} (hg : G d = some o) (h : paOf o.kd o.b = some ps) : ∀ p ∈ ps, p ∈ U := by
 obtain ⟨ks, hk, hp⟩ := pa_lk h
 intro p hpp
 obtain ⟨k, hk1, e⟩ := hp p hpp
 have := hu.lk d o ks hg hk k hk1
 rw [e, bk_list] at this
 exact this
section
variable {G : Gid → Option Gob} {most : Int} {a : Gid} {n i : Nat} {l : List Gid}
end
end Go.Proofs.YtihanglnjghcfaaGreatDoor
namespace Go.Proofs.YtihanglnjghcfaaGreatDoor
open Go.RowKit Go.Maps
set_option linter.unusedVariables false
set_option linter.unusedSimpArgs false

set_option maxRecDepth 100000 in
set_option maxHeartbeats 2000000 in
theorem rhas_any (w : World) (A : Option Addr) (n c : Nat) (l : List Gid) (d : Gid) (h : StrsAt w A (l.map bk)) (hl : l.length = n) (hn : n ≤ 1073741824) :
 Calls Tryz.prog 28 #[.slice A n c, .string (bk d)] w fun e w' => e = .returned (.bool (decide (d ∈ l))) ∧ w' = w := by
 have HS := Lib.hid h
 have HL := Lib.hid (And.intro hl hn)
 clear h hl hn
 go_enter Tryz.func28, Tryz.ntmps28
 go_wp2
 go_loopw [5] (fun vn wr => ∃ i : Nat, vn = .int .i64 i ∧ i ≤ n ∧ wr = w ∧ ∀ j x, j < i → l[j]? = some x → x ≠ d) (fun vn _ => n - (intOf vn).toNat)
 case atStart => exact ⟨0, rfl, by omega, rfl, fun j x h => absurd h (by omega)⟩
 case round =>
  obtain ⟨i, rfl, hi, rfl, hno⟩ := hrel
  have HNO := Lib.hid hno
  clear hno
  by_cases hlt : i < n
  · have d1 : decide ((i : Int) < (n : Int)) = true := decide_eq_true (by omega)
    have d1' : decide (i < n) = true := decide_eq_true hlt
    obtain ⟨x, hx⟩ : ∃ x, l[i]? = some x := ⟨_, List.getElem?_eq_getElem (by rw [HL.out.1]; exact hlt)⟩
    obtain ⟨b, o, rfl, _, hc⟩ := HS.out (by rw [List.length_map, HL.out.1]; omega)
    have f0 := hc i (bk x) (by rw [List.getElem?_map, hx]; rfl)
    have HX := Lib.hid hx
    have hle : ¬ (n : Int) ≤ i := by omega
    have hn0 : (0 : Int) ≤ i := by omega
    have hnl : (i : Int) < n := by omega
    clear hx hc
    by_cases he : x = d
    · have q1 : ((bk x).toList == (bk d).toList) = true := by rw [he]; simp
      have HRR : Hid (decide (d ∈ l) = true) := Lib.hid (decide_eq_true (by rw [← he]; exact List.mem_of_getElem? HX.out))
      clear he
      go_wp2
      go_ret
      exact ⟨by rw [HRR.out]; rfl, by first | rfl | trivial⟩
    · have q1 : ((bk x).toList == (bk d).toList) = false := by rw [Lib.toList_data, Lib.toList_data, bk_list, bk_list, beq_eq_false_iff_ne]; exact he
      have HNX : Hid (∀ j y, j < i + 1 → l[j]? = some y → y ≠ d) := Lib.hid (fun j y hj hy => by
       rcases Nat.lt_or_ge j i with h | h
       · exact HNO.out j y h hy
       · obtain rfl : j = i := by omega
         rw [HX.out] at hy
         injection hy with hy
         rw [← hy]; exact he)
      have hw : IntKind.i64.wrap ((i : Int) + 1) = (i : Int) + 1 := IntWalk.i64_in _ (by have := HL.out; omega)
      clear he
      go_wp2
      go_roundw
      case rel => exact ⟨i + 1, rfl, hlt, by first | rfl | trivial, HNX.out⟩
      case measure => simp [intOf]; omega
  · have d1 : decide ((i : Int) < (n : Int)) = false := decide_eq_false (by omega)
    have d1' : decide (i < n) = false := decide_eq_false hlt
    have HRR : Hid (decide (d ∈ l) = false) := Lib.hid (decide_eq_false (fun h => by
     obtain ⟨j, hj, e⟩ := List.mem_iff_getElem.1 h
     exact HNO.out j l[j] (by have := HL.out.1; omega) (List.getElem?_eq_getElem hj) e))
    go_wp2
    go_ret
    exact ⟨by rw [HRR.out]; rfl, by first | rfl | trivial⟩
end Go.Proofs.YtihanglnjghcfaaGreatDoor
namespace Go.Proofs.YtihanglnjghcfaaGreatDoor
open Go.Maps Go.WideShapes
set_option linter.unusedVariables false
set_option linter.unusedSimpArgs false

abbrev Txt := List UInt8
/-- Texts that rise. -/
def Rise (l : List Txt) : Prop := l.Pairwise fun a b => bytesBefore a b = true
def putS (s : Txt) : List Txt → List Txt
 | [] => [s]
 | y :: r => if bytesBefore s y then s :: y :: r else if y = s then y :: r else y :: putS s r
theorem putS_mem {s x : Txt} : ∀ {l : List Txt}, x ∈ putS s l ↔ x = s ∨ x ∈ l
 | [] => by simp [putS]
 | y :: r => by
  unfold putS
  split
  · simp
  · split
    · rename_i h
      subst h
      simp
    · rw [List.mem_cons, putS_mem, List.mem_cons]
      constructor
      · rintro (h | h | h) <;> simp [h]
      · rintro (h | h | h) <;> simp [h]
theorem putS_rise {s : Txt} : ∀ {l : List Txt}, Rise l → Rise (putS s l)
 | [], _ => List.pairwise_singleton _ _
 | y :: r, h => by
  obtain ⟨h1, h2⟩ := List.pairwise_cons.1 h
  unfold putS
  split
  · rename_i hb
    refine List.pairwise_cons.2 ⟨fun q hq => ?_, h⟩
    rcases List.mem_cons.1 hq with rfl | hq
    · exact hb
    · exact bytes_trans _ _ _ hb (h1 q hq)
  · split
    · exact h
    · rename_i hb he
      refine List.pairwise_cons.2 ⟨fun q hq => ?_, putS_rise h2⟩
      rcases putS_mem.1 hq with rfl | hq
      · rcases WideAt.bytes_total y q he with h' | h'
        · exact h'
        · exact absurd h' hb
      · exact h1 q hq
theorem rise_ext {l m : List Txt} (hl : Rise l) (hm : Rise m) (h : ∀ p, p ∈ l ↔ p ∈ m) : l = m := by
 induction l generalizing m with
 | nil =>
  cases m with
  | nil => rfl
  | cons b s => exact absurd ((h b).2 (by simp)) (by simp)
 | cons a r ih =>
  cases m with
  | nil => exact absurd ((h a).1 (by simp)) (by simp)
  | cons b s =>
   obtain ⟨a1, a2⟩ := List.pairwise_cons.1 hl
   obtain ⟨b1, b2⟩ := List.pairwise_cons.1 hm
   have hab : a = b := by
    rcases List.mem_cons.1 ((h a).1 (by simp)) with e | ha
    · exact e
    · rcases List.mem_cons.1 ((h b).2 (by simp)) with e | hb
      · exact e.symm
      · have := bytes_trans _ _ _ (a1 b hb) (b1 a ha)
        rw [WideAt.bytes_irrefl] at this
        cases this
   subst hab
   rw [ih a2 b2 (fun p => ⟨fun hp => by
    rcases List.mem_cons.1 ((h p).1 (by simp [hp])) with e | hp'
    · have := a1 p hp; rw [e, WideAt.bytes_irrefl] at this; cases this
    · exact hp', fun hp => by
    rcases List.mem_cons.1 ((h p).2 (by simp [hp])) with e | hp'
    · have := b1 p hp; rw [e, WideAt.bytes_irrefl] at this; cases this
    · exact hp'⟩)]
/-- All of them put. -/
def putAllS : List Txt → List Txt → List Txt
 | out, [] => out
 | out, s :: r => putAllS (putS s out) r
theorem putAllS_mem {x : Txt} : ∀ (l out : List Txt), x ∈ putAllS out l ↔ x ∈ l ∨ x ∈ out
 | [], out => by simp [putAllS]
 | s :: r, out => by
  unfold putAllS
  rw [putAllS_mem r, putS_mem, List.mem_cons]
  constructor
  · rintro (h | h | h) <;> simp [h]
  · rintro ((h | h) | h) <;> simp [h]
theorem putAllS_rise : ∀ (l out : List Txt), Rise out → Rise (putAllS out l)
 | [], out, h => h
 | s :: r, out, h => putAllS_rise r _ (putS_rise h)
/-- Unlike texts in order are what putting them one by one makes. -/
theorem sorted_put {l m : List Txt} (hp : ∀ x, x ∈ m ↔ x ∈ l) (hm : Rise m) : m = putAllS [] l :=
 rise_ext hm (putAllS_rise l [] List.Pairwise.nil) fun x => by rw [hp, putAllS_mem]; simp
/-- Put, the document's way: what lies ahead, the text, what lies behind. -/
theorem putS_is {l : List Txt} (hu : Rise l) {s : Txt} {k k' : Nat} (hk : k ≤ l.length) (h1 : ∀ p ∈ l.take k, bytesBefore p s = true) (h2 : ∀ p, l[k]? = some p → bytesBefore p s = false)
 (h3 : (k' = k + 1 ∧ l[k]? = some s) ∨ (k' = k ∧ ∀ p, l[k]? = some p → p ≠ s)) : putS s l = l.take k ++ [s] ++ l.drop k' := by
 induction l generalizing k k' with
 | nil =>
  have : k = 0 := by simpa using hk
  subst this
  rcases h3 with ⟨_, h⟩ | ⟨rfl, _⟩
  · simp at h
  · rfl
 | cons y r ih =>
  cases k with
  | zero =>
   have hb : bytesBefore y s = false := h2 y rfl
   rcases h3 with ⟨rfl, h⟩ | ⟨rfl, h⟩
   · simp at h
     subst h
     unfold putS
     rw [if_neg (by rw [hb]; decide), if_pos rfl]
     rfl
   · have hne : y ≠ s := h y rfl
     have : bytesBefore s y = true := by
      rcases WideAt.bytes_total y s hne with h' | h'
      · rw [hb] at h'; cases h'
      · exact h'
     unfold putS
     rw [if_pos this]
     rfl
  | succ k =>
   have hy : bytesBefore y s = true := h1 y (by simp)
   have hns : bytesBefore s y = false := by
    cases h : bytesBefore s y with
    | false => rfl
    | true =>
     have := bytes_trans _ _ _ hy h
     rw [WideAt.bytes_irrefl] at this
     cases this
   have hne : y ≠ s := fun e => by rw [e, WideAt.bytes_irrefl] at hy; cases hy
   unfold putS
   rw [if_neg (by rw [hns]; decide), if_neg hne]
   have hr := (List.pairwise_cons.1 hu).2
   obtain ⟨k'', rfl⟩ : ∃ k'', k' = k'' + 1 := by
    rcases h3 with ⟨rfl, _⟩ | ⟨rfl, _⟩
    · exact ⟨_, rfl⟩
    · exact ⟨_, rfl⟩
   have := ih (k := k) (k' := k'') hr (by simpa using hk) (fun p hp => h1 p (by simp [hp])) (fun p hp => h2 p (by simpa using hp)) (by
    rcases h3 with ⟨h, hh⟩ | ⟨h, hh⟩
    · exact .inl ⟨by omega, by simpa using hh⟩
    · exact .inr ⟨by omega, fun p hp => hh p (by simpa using hp)⟩)
   rw [this]
   rfl
end Go.Proofs.YtihanglnjghcfaaGreatDoor
namespace Go.Proofs.YtihanglnjghcfaaGreatDoor
open Go.RowKit Go.Maps
set_option linter.unusedVariables false
set_option linter.unusedSimpArgs false

def atD (l : List Git) (d : Gid) : Int := match atG l d with | none => -1 | some i => (i : Int)
theorem atG_first {l : List Git} {d : Gid} {i : Nat} {x : Git} (h : ∀ j y, j < i → l[j]? = some y → y.id ≠ d) (hx : l[i]? = some x) (he : x.id = d) : atG l d = some i := by
 unfold atG
 obtain ⟨hi, hxe⟩ := List.getElem?_eq_some_iff.1 hx
 rw [List.findIdx?_eq_some_iff_getElem]
 refine ⟨hi, by rw [hxe]; simpa using he, fun j hj => ?_⟩
 have := h j l[j] hj (List.getElem?_eq_getElem (by omega))
 simpa using this
set_option maxRecDepth 100000 in
set_option maxHeartbeats 2000000 in
theorem rat_any (w : World) (B : Nat) (A : Option Addr) (n c : Nat) (l : List Git) (d : Gid) (h : OwnS w B 89 2 (.slice A n c) n (l.flatMap itV)) (hl : l.length = n) (hn : n ≤ 1073741824) :
 Calls Tryz.prog 39 #[.slice A n c, .string (bk d)] w fun e w' => e = .returned (.int .i64 (atD l d)) ∧ w' = w := by
 have hG : Hid (∀ (i : Nat) (x : Git), l[i]? = some x → ∃ b o, A = some ⟨b, o, none⟩ ∧ w.cell? ⟨b, o + i * 2, none⟩ = some (.string (bk x.id))) := Lib.hid (fun i x hx => by
  obtain ⟨b, o, h1, _, _, h2⟩ := OwnS.flat itV_len (by decide) h hx
  exact ⟨b, o, h1, h2 0 (by decide)⟩)
 have HL := Lib.hid (And.intro hl hn)
 clear h hl hn
 go_enter Tryz.func39, Tryz.ntmps39
 go_wp2
 go_loopw [5] (fun vn wr => ∃ i : Nat, vn = .int .i64 i ∧ i ≤ n ∧ wr = w ∧ ∀ j x, j < i → l[j]? = some x → x.id ≠ d) (fun vn _ => n - (intOf vn).toNat)
 case atStart => exact ⟨0, rfl, by omega, rfl, fun j x h => absurd h (by omega)⟩
 case round =>
  obtain ⟨i, rfl, hi, rfl, hno⟩ := hrel
  have HNO := Lib.hid hno
  clear hno
  by_cases hlt : i < n
  · have d1 : decide ((i : Int) < (n : Int)) = true := decide_eq_true (by omega)
    have d1' : decide (i < n) = true := decide_eq_true hlt
    obtain ⟨x, hx⟩ : ∃ x, l[i]? = some x := ⟨_, List.getElem?_eq_getElem (by rw [HL.out.1]; exact hlt)⟩
    obtain ⟨b, o, hA, f0⟩ := hG.out i x hx
    subst hA
    have HX := Lib.hid hx
    have hle : ¬ (n : Int) ≤ i := by omega
    have hn0 : (0 : Int) ≤ i := by omega
    have hnl : (i : Int) < n := by omega
    clear hx
    by_cases he : x.id = d
    · have q1 : ((bk x.id).toList == (bk d).toList) = true := by rw [he]; simp
      have HRR : Hid (atD l d = (i : Int)) := Lib.hid (by unfold atD; rw [atG_first HNO.out HX.out he])
      clear he
      go_wp2
      go_ret
      exact ⟨by rw [HRR.out]; rfl, by first | rfl | trivial⟩
    · have q1 : ((bk x.id).toList == (bk d).toList) = false := by rw [Lib.toList_data, Lib.toList_data, bk_list, bk_list, beq_eq_false_iff_ne]; exact he
      have HNX : Hid (∀ j y, j < i + 1 → l[j]? = some y → y.id ≠ d) := Lib.hid (fun j y hj hy => by
       rcases Nat.lt_or_ge j i with h | h
       · exact HNO.out j y h hy
       · obtain rfl : j = i := by omega
         rw [HX.out] at hy
         injection hy with hy
         rw [← hy]; exact he)
      have hw : IntKind.i64.wrap ((i : Int) + 1) = (i : Int) + 1 := IntWalk.i64_in _ (by have := HL.out; omega)
      clear he
      go_wp2
      go_roundw
      case rel => exact ⟨i + 1, rfl, hlt, by first | rfl | trivial, HNX.out⟩
      case measure => simp [intOf]; omega
  · have d1 : decide ((i : Int) < (n : Int)) = false := decide_eq_false (by omega)
    have d1' : decide (i < n) = false := decide_eq_false hlt
    have HRR : Hid (atD l d = -1) := Lib.hid (by
     unfold atD
     rw [atG_none.2 fun x hx => by
      obtain ⟨j, hj⟩ := List.mem_iff_getElem?.1 hx
      exact HNO.out j x (by have := (List.getElem?_eq_some_iff.1 hj).1; have := HL.out; omega) hj])
    clear hi hlt
    go_wp2
    go_ret
    exact ⟨by rw [HRR.out]; rfl, by first | rfl | trivial⟩
end Go.Proofs.YtihanglnjghcfaaGreatDoor
namespace Go.Proofs.YtihanglnjghcfaaGreatDoor
open Go.RowKit Go.Maps
set_option linter.unusedVariables false
set_option linter.unusedSimpArgs false

theorem less_beforeG : ∀ a b : List UInt8, Op.bytesLess a b = bytesBefore a b
 | [], [] => rfl
 | _ :: _, [] => rfl
 | [], _ :: _ => rfl
 | a :: x, b :: y => by
  show (_ || (_ && Op.bytesLess x y)) = (_ || (_ && bytesBefore x y))
  rw [less_beforeG x y]
theorem less_bk (p s : Gid) : Op.bytesLess (bk p).toList (bk s).toList = bytesBefore p s := by rw [less_beforeG, Lib.toList_data, Lib.toList_data, bk_list, bk_list]
theorem eq_bk (p s : Gid) : ((bk p).toList == (bk s).toList) = (p == s) := by rw [Lib.toList_data, Lib.toList_data, bk_list, bk_list]
theorem strVs_app (a b : List Gid) : strVs (a ++ b) = strVs a ++ strVs b := by unfold strVs; rw [List.map_append]
theorem strVs_len (a : List Gid) : (strVs a).length = a.length := by unfold strVs; rw [List.length_map]
theorem src_noS {P : Program} {w : World} {A : Option Addr} {m c : Nat} {l : List Gid} (hm : m = 0) (hl : l = []) : Src P w 1 (.slice A m c) m (strVs l) := by
 subst hm; subst hl
 exact Src.vals rfl (by simp [strVs]) (fun h => absurd h (by simp [strVs]))
theorem src_tlS {P : Program} {w : World} {B b o n c c' m k : Nat} {l : List Gid} (h : OwnS w B 9 1 (.slice (some ⟨b, o, none⟩) n c) n (strVs l)) (hn : l.length = n) (hk : k ≤ n) (hm : m = n - k) : Src P w 1 (.slice (some ⟨b, o + k, none⟩) m c') m (strVs (l.drop k)) := by
 refine Src.vals (by rw [strVs_len, List.length_drop, hm, hn]; omega) (strVs_one _) fun hl => ⟨_, rfl, fun j u hj => ?_⟩
 have he : strVs (l.drop k) = (strVs l).drop k := by unfold strVs; rw [List.map_drop]
 rw [he, List.getElem?_drop] at hj
 obtain ⟨g, off, c2, hv, _, _, hc⟩ := h.cells (by rw [strVs_len]; rw [strVs_len, List.length_drop] at hl; omega)
 injection hv with hA _ _
 injection hA with hA
 injection hA with h1 h2 _
 subst h1; subst h2
 rw [Addr.add_lit, Nat.add_assoc, hc _ (List.getElem?_eq_some_iff.1 hj).1]
 exact hj
theorem OwnS.strOf {w : World} {B n c : Nat} {A : Option Addr} {xs : List Value} {L : List Gid} (h : OwnS w B 9 1 (.slice A n c) n xs) (hx : xs = strVs L) : n = L.length ∧ OwnS w B 9 1 (.slice A L.length c) L.length (strVs L) := by
 subst hx
 have h1 := h.1
 rw [strVs_len] at h1
 have : n = L.length := by omega
 subst this
 exact ⟨rfl, h⟩
theorem OwnS.low {w : World} {B n : Nat} {e : TypeId} {size : Nat} {v : Value} {xs : List Value} (h : OwnS w B e size v n xs) (W : World) (hb : Below w.heap.size w W) : OwnS W B e size v n xs :=
 h.chg (S := fun _ => False) (Chg.of_below hb) fun _ _ h => h
def RPut (L : List Gid) (w : World) (e : Ending) (w' : World) : Prop := Below w.heap.size w w' ∧ ∃ A c, e = .returned (.slice A L.length c) ∧ OwnS w' w.heap.size 9 1 (.slice A L.length c) L.length (strVs L)
set_option maxRecDepth 100000 in
set_option maxHeartbeats 4000000 in
theorem rput_any (w : World) (B : Nat) (A : Option Addr) (n c : Nat) (l : List Gid) (s : Gid) (h : OwnS w B 9 1 (.slice A n c) n (strVs l)) (hl : l.length = n) (hu : Rise l) (hn : n ≤ 1073741824) :
 Calls Tryz.prog 40 #[.slice A n c, .string (bk s)] w (RPut (putS s l) w) := by
 have HPO : Hid (∀ e w', RPut (putS s l) w e w' = (Below w.heap.size w w' ∧ ∃ A c, e = .returned (.slice A (putS s l).length c) ∧ OwnS w' w.heap.size 9 1 (.slice A (putS s l).length c) (putS s l).length (strVs (putS s l)))) := Lib.hid (fun _ _ => rfl)
 generalize RPut (putS s l) w = POST at *
 obtain ⟨i0, hi, hz0, hz1, hz2⟩ := info_parts info_str1
 have H := Lib.hid h
 have HU := Lib.hid hu
 have HN := Lib.hid (And.intro hl hn)
 have HCAP : Hid (n ≤ c) := Lib.hid h.cap
 have HCASE : Hid ((A = none ∧ n = 0 ∧ c = 0) ∨ ∃ b o, A = some ⟨b, o, none⟩) := Lib.hid (by
  rcases h.2 with ⟨hv, _⟩ | ⟨g, off, cap, cur, hv, _⟩
  · injection hv with h1 h2 h3; exact .inl ⟨h1, h2, h3⟩
  · injection hv with h1; exact .inr ⟨g, off, h1⟩)
 have hG : Hid (∀ (i : Nat) (x : Gid), l[i]? = some x → ∃ b o, A = some ⟨b, o, none⟩ ∧ b < w.heap.size ∧ w.cell? ⟨b, o + i, none⟩ = some (.string (bk x))) := Lib.hid (fun i x hx => by
  have hS := h.strsAt
  obtain ⟨b, o, h1, h2, h3⟩ := hS (by rw [List.length_map]; exact Nat.lt_of_le_of_lt (Nat.zero_le i) (List.getElem?_eq_some_iff.1 hx).1)
  exact ⟨b, o, h1, h2, h3 i (bk x) (by rw [List.getElem?_map, hx]; rfl)⟩)
 clear h hl hu
 go_enter Tryz.func40, Tryz.ntmps40
 go_wp2
 go_loopw [6, 5] (fun v6 v5 wr => ∃ (k : Nat) (A2 : Option Addr) (c2 : Nat), v6 = .int .i64 (k : Int) ∧ v5 = .slice A2 k c2 ∧ k ≤ n ∧ OwnS wr w.heap.size 9 1 (.slice A2 k c2) k (strVs (l.take k)) ∧ Below w.heap.size w wr ∧ ∀ p ∈ l.take k, bytesBefore p s = true) (fun v6 _ _ => n - (intOf v6).toNat)
 case atStart => exact ⟨0, none, 0, rfl, rfl, Nat.zero_le _, OwnS.nil _ _ _ _, Below.refl _ _, by simp⟩
 case round =>
  obtain ⟨k, A2, c2, rfl, rfl, hk, ho, hb, hlow⟩ := hrel
  have HO := Lib.hid ho
  have HB := Lib.hid hb
  have HL := Lib.hid hlow
  clear ho hb hlow
  by_cases hlt : k < n
  · obtain ⟨p, hp⟩ : ∃ p, l[k]? = some p := ⟨_, List.getElem?_eq_getElem (by rw [HN.out.1]; exact hlt)⟩
    obtain ⟨b, o, rfl, hbl, hc0⟩ := hG.out k p hp
    have hc1 : wr.cell? ⟨b, o + k, none⟩ = some (.string (bk p)) := (HB.out.cell (p := ⟨b, o + k, none⟩) hbl).trans hc0
    have hc9 : Hid (∀ W, Below w.heap.size w W → W.cell? ⟨b, o + k, none⟩ = some (.string (bk p))) := Lib.hid (fun W hb => (hb.cell (p := ⟨b, o + k, none⟩) hbl).trans hc0)
    have d0 : decide ((k : Int) < (n : Int)) = true := decide_eq_true (by omega)
    have d0' : decide (k < n) = true := decide_eq_true hlt
    have hle : ¬ (n : Int) ≤ k := by omega
    have hn0 : (0 : Int) ≤ k := by omega
    have hnl : (k : Int) < n := by omega
    have hwr : IntKind.i64.wrap ((k : Int) + 1) = (k : Int) + 1 := IntWalk.i64_in _ (by have := HN.out; omega)
    have HP := Lib.hid hp
    clear hc0
    cases hbf : bytesBefore p s
    · by_cases he : p = s
      · have HIS := Lib.hid (putS_is (s := s) (k' := k + 1) HU.out (by rw [HN.out.1]; exact hk) HL.out (fun y hy => by rw [hp] at hy; rw [← Option.some.inj hy]; exact hbf) (.inl ⟨rfl, by rw [hp, he]⟩))
        have q1 : Op.bytesLess (bk p).toList (bk s).toList = false := by rw [less_bk, hbf]
        have q2 : ((bk p).toList == (bk s).toList) = true := by rw [eq_bk, beq_iff_eq]; exact he
        clear hbf he hp
        by_cases hck : c = (k + 1)
        · have HSR : Hid (∀ W : World, Below w.heap.size w W → Src Tryz.prog W 1 (.slice (some ⟨b, o, none⟩) (n - (k + 1)) 0) (n - (k + 1)) (strVs (l.drop (k + 1)))) := Lib.hid (fun W hb => src_noS (by have := HCAP.out; omega) (List.drop_eq_nil_of_le (by have := HCAP.out; have := HN.out; omega)))
          have hck2 := hck.symm
          clear hck
          subst hck2
          have HOA := Lib.hid (HO.out.alloc (.cells #[.string (bk s)] 9))
          have HBA : Hid (Below w.heap.size w (wr.alloc (.cells #[.string (bk s)] 9))) := Lib.hid (HB.out.trans (((Below.refl _ _).alloc (Nat.le_refl _) _).mono HB.out.size))
          have HS1 := Lib.hid (Src.one_new (P := Tryz.prog) (w := wr) (u := .string (bk s)) (t := 9) rfl)
          have hm1 : k + 1 ≤ maxLen := by have := HN.out; unfold maxLen; omega
          have hb1 : (k + 1) * 16 ≤ 140737488355328 := by have := HN.out; omega
          have hm2 : k + 1 + (n - (k + 1)) ≤ maxLen := by have := HN.out; unfold maxLen; omega
          have hb2 : (k + 1 + (n - (k + 1))) * 16 ≤ 140737488355328 := by have := HN.out; omega
          clear HO HB
          go_upto_region 7 with (at_builtin; go_loud (refine wpList_append_S rfl (.tmp 28) (.tmp 30) 32 32 rfl i0 (.string ⟨#[]⟩) 16 (.slice 9) Tryz.underlying32 Tryz.underlying32 (fun _ h => by cases h) hi hz0 hz1 hz2 rfl rfl rfl HOA.out HS1.out hm1 hb1 HBA.out.size ?_; intro A8 c8 w8; intro ho8 hg8 hw8))
          have HO8 := Lib.hid ho8
          have HB8 := Lib.hid (HBA.out.grown hg8 HBA.out.size (fun j hj => (HOA.out.lt j hj).1))
          clear ho8 hg8 hw8 hm1 hb1
          have hcc := hc9.out w8 HB8.out
          go_wp2_with (at_builtin; go_loud (refine wpList_append_S rfl (.tmp 46) (.tmp 49) 32 32 rfl i0 (.string ⟨#[]⟩) 16 (.slice 9) Tryz.underlying32 Tryz.underlying32 (fun _ h => by cases h) hi hz0 hz1 hz2 rfl rfl rfl HO8.out (HSR.out _ HB8.out) hm2 hb2 HB8.out.size ?_; intro A9 c9 w9; generalize k + 1 + (n - (k + 1)) = n9 at *; intro ho9 hg9 hw9))
          have HB9 := Lib.hid (HB8.out.grown hg9 HB8.out.size (fun j hj => (HO8.out.lt j hj).1))
          have HO9 := Lib.hid (ho9.strOf (L := putS s l) (by rw [HIS.out, strVs_app, strVs_app]; rfl))
          clear ho9 hg9 hw9
          go_wp2
          rw [HPO.out]
          exact ⟨HB9.out, A9, c9, by first | (rw [← HO9.out.1]; done) | (rw [← HO9.out.1]; rfl), HO9.out.2⟩
        · have HSR : Hid (∀ W : World, Below w.heap.size w W → Src Tryz.prog W 1 (.slice (some ⟨b, o + (k + 1), none⟩) (n - (k + 1)) (c - (k + 1))) (n - (k + 1)) (strVs (l.drop (k + 1)))) := Lib.hid (fun W hb => src_tlS (H.out.low W hb) HN.out.1 (by omega) (by omega))
          have HOA := Lib.hid (HO.out.alloc (.cells #[.string (bk s)] 9))
          have HBA : Hid (Below w.heap.size w (wr.alloc (.cells #[.string (bk s)] 9))) := Lib.hid (HB.out.trans (((Below.refl _ _).alloc (Nat.le_refl _) _).mono HB.out.size))
          have HS1 := Lib.hid (Src.one_new (P := Tryz.prog) (w := wr) (u := .string (bk s)) (t := 9) rfl)
          have hm1 : k + 1 ≤ maxLen := by have := HN.out; unfold maxLen; omega
          have hb1 : (k + 1) * 16 ≤ 140737488355328 := by have := HN.out; omega
          have hm2 : k + 1 + (n - (k + 1)) ≤ maxLen := by have := HN.out; unfold maxLen; omega
          have hb2 : (k + 1 + (n - (k + 1))) * 16 ≤ 140737488355328 := by have := HN.out; omega
          clear HO HB
          go_upto_region 7 with (at_builtin; go_loud (refine wpList_append_S rfl (.tmp 28) (.tmp 30) 32 32 rfl i0 (.string ⟨#[]⟩) 16 (.slice 9) Tryz.underlying32 Tryz.underlying32 (fun _ h => by cases h) hi hz0 hz1 hz2 rfl rfl rfl HOA.out HS1.out hm1 hb1 HBA.out.size ?_; intro A8 c8 w8; intro ho8 hg8 hw8))
          have HO8 := Lib.hid ho8
          have HB8 := Lib.hid (HBA.out.grown hg8 HBA.out.size (fun j hj => (HOA.out.lt j hj).1))
          clear ho8 hg8 hw8 hm1 hb1
          have hcc := hc9.out w8 HB8.out
          go_wp2_with (at_builtin; go_loud (refine wpList_append_S rfl (.tmp 46) (.tmp 49) 32 32 rfl i0 (.string ⟨#[]⟩) 16 (.slice 9) Tryz.underlying32 Tryz.underlying32 (fun _ h => by cases h) hi hz0 hz1 hz2 rfl rfl rfl HO8.out (HSR.out _ HB8.out) hm2 hb2 HB8.out.size ?_; intro A9 c9 w9; generalize k + 1 + (n - (k + 1)) = n9 at *; intro ho9 hg9 hw9))
          have HB9 := Lib.hid (HB8.out.grown hg9 HB8.out.size (fun j hj => (HO8.out.lt j hj).1))
          have HO9 := Lib.hid (ho9.strOf (L := putS s l) (by rw [HIS.out, strVs_app, strVs_app]; rfl))
          clear ho9 hg9 hw9
          go_wp2
          rw [HPO.out]
          exact ⟨HB9.out, A9, c9, by first | (rw [← HO9.out.1]; done) | (rw [← HO9.out.1]; rfl), HO9.out.2⟩
      · have HIS := Lib.hid (putS_is (s := s) (k' := k) HU.out (by rw [HN.out.1]; exact hk) HL.out (fun y hy => by rw [hp] at hy; rw [← Option.some.inj hy]; exact hbf) (.inr ⟨rfl, fun y hy => by rw [hp] at hy; rw [← Option.some.inj hy]; exact he⟩))
        have q1 : Op.bytesLess (bk p).toList (bk s).toList = false := by rw [less_bk, hbf]
        have q2 : ((bk p).toList == (bk s).toList) = false := by rw [eq_bk, beq_eq_false_iff_ne]; exact he
        clear hbf he hp
        by_cases hck : c = k
        · have HSR : Hid (∀ W : World, Below w.heap.size w W → Src Tryz.prog W 1 (.slice (some ⟨b, o, none⟩) (n - k) 0) (n - k) (strVs (l.drop k))) := Lib.hid (fun W hb => src_noS (by have := HCAP.out; omega) (List.drop_eq_nil_of_le (by have := HCAP.out; have := HN.out; omega)))
          have hck2 := hck.symm
          clear hck
          subst hck2
          have HOA := Lib.hid (HO.out.alloc (.cells #[.string (bk s)] 9))
          have HBA : Hid (Below w.heap.size w (wr.alloc (.cells #[.string (bk s)] 9))) := Lib.hid (HB.out.trans (((Below.refl _ _).alloc (Nat.le_refl _) _).mono HB.out.size))
          have HS1 := Lib.hid (Src.one_new (P := Tryz.prog) (w := wr) (u := .string (bk s)) (t := 9) rfl)
          have hm1 : k + 1 ≤ maxLen := by have := HN.out; unfold maxLen; omega
          have hb1 : (k + 1) * 16 ≤ 140737488355328 := by have := HN.out; omega
          have hm2 : k + 1 + (n - k) ≤ maxLen := by have := HN.out; unfold maxLen; omega
          have hb2 : (k + 1 + (n - k)) * 16 ≤ 140737488355328 := by have := HN.out; omega
          clear HO HB
          go_upto_region 7 with (at_builtin; go_loud (refine wpList_append_S rfl (.tmp 28) (.tmp 30) 32 32 rfl i0 (.string ⟨#[]⟩) 16 (.slice 9) Tryz.underlying32 Tryz.underlying32 (fun _ h => by cases h) hi hz0 hz1 hz2 rfl rfl rfl HOA.out HS1.out hm1 hb1 HBA.out.size ?_; intro A8 c8 w8; intro ho8 hg8 hw8))
          have HO8 := Lib.hid ho8
          have HB8 := Lib.hid (HBA.out.grown hg8 HBA.out.size (fun j hj => (HOA.out.lt j hj).1))
          clear ho8 hg8 hw8 hm1 hb1
          have hcc := hc9.out w8 HB8.out
          go_wp2_with (at_builtin; go_loud (refine wpList_append_S rfl (.tmp 46) (.tmp 49) 32 32 rfl i0 (.string ⟨#[]⟩) 16 (.slice 9) Tryz.underlying32 Tryz.underlying32 (fun _ h => by cases h) hi hz0 hz1 hz2 rfl rfl rfl HO8.out (HSR.out _ HB8.out) hm2 hb2 HB8.out.size ?_; intro A9 c9 w9; generalize k + 1 + (n - k) = n9 at *; intro ho9 hg9 hw9))
          have HB9 := Lib.hid (HB8.out.grown hg9 HB8.out.size (fun j hj => (HO8.out.lt j hj).1))
          have HO9 := Lib.hid (ho9.strOf (L := putS s l) (by rw [HIS.out, strVs_app, strVs_app]; rfl))
          clear ho9 hg9 hw9
          go_wp2
          rw [HPO.out]
          exact ⟨HB9.out, A9, c9, by first | (rw [← HO9.out.1]; done) | (rw [← HO9.out.1]; rfl), HO9.out.2⟩
        · have HSR : Hid (∀ W : World, Below w.heap.size w W → Src Tryz.prog W 1 (.slice (some ⟨b, o + k, none⟩) (n - k) (c - k)) (n - k) (strVs (l.drop k))) := Lib.hid (fun W hb => src_tlS (H.out.low W hb) HN.out.1 (by omega) (by omega))
          have HOA := Lib.hid (HO.out.alloc (.cells #[.string (bk s)] 9))
          have HBA : Hid (Below w.heap.size w (wr.alloc (.cells #[.string (bk s)] 9))) := Lib.hid (HB.out.trans (((Below.refl _ _).alloc (Nat.le_refl _) _).mono HB.out.size))
          have HS1 := Lib.hid (Src.one_new (P := Tryz.prog) (w := wr) (u := .string (bk s)) (t := 9) rfl)
          have hm1 : k + 1 ≤ maxLen := by have := HN.out; unfold maxLen; omega
          have hb1 : (k + 1) * 16 ≤ 140737488355328 := by have := HN.out; omega
          have hm2 : k + 1 + (n - k) ≤ maxLen := by have := HN.out; unfold maxLen; omega
          have hb2 : (k + 1 + (n - k)) * 16 ≤ 140737488355328 := by have := HN.out; omega
          clear HO HB
          go_upto_region 7 with (at_builtin; go_loud (refine wpList_append_S rfl (.tmp 28) (.tmp 30) 32 32 rfl i0 (.string ⟨#[]⟩) 16 (.slice 9) Tryz.underlying32 Tryz.underlying32 (fun _ h => by cases h) hi hz0 hz1 hz2 rfl rfl rfl HOA.out HS1.out hm1 hb1 HBA.out.size ?_; intro A8 c8 w8; intro ho8 hg8 hw8))
          have HO8 := Lib.hid ho8
          have HB8 := Lib.hid (HBA.out.grown hg8 HBA.out.size (fun j hj => (HOA.out.lt j hj).1))
          clear ho8 hg8 hw8 hm1 hb1
          have hcc := hc9.out w8 HB8.out
          go_wp2_with (at_builtin; go_loud (refine wpList_append_S rfl (.tmp 46) (.tmp 49) 32 32 rfl i0 (.string ⟨#[]⟩) 16 (.slice 9) Tryz.underlying32 Tryz.underlying32 (fun _ h => by cases h) hi hz0 hz1 hz2 rfl rfl rfl HO8.out (HSR.out _ HB8.out) hm2 hb2 HB8.out.size ?_; intro A9 c9 w9; generalize k + 1 + (n - k) = n9 at *; intro ho9 hg9 hw9))
          have HB9 := Lib.hid (HB8.out.grown hg9 HB8.out.size (fun j hj => (HO8.out.lt j hj).1))
          have HO9 := Lib.hid (ho9.strOf (L := putS s l) (by rw [HIS.out, strVs_app, strVs_app]; rfl))
          clear ho9 hg9 hw9
          go_wp2
          rw [HPO.out]
          exact ⟨HB9.out, A9, c9, by first | (rw [← HO9.out.1]; done) | (rw [← HO9.out.1]; rfl), HO9.out.2⟩
    · have q1 : Op.bytesLess (bk p).toList (bk s).toList = true := by rw [less_bk, hbf]
      have HTK : Hid (strVs (l.take (k + 1)) = strVs (l.take k) ++ [.string (bk p)]) := Lib.hid (by unfold strVs; rw [List.take_add_one, hp, List.map_append]; rfl)
      have HL2 : Hid (∀ y ∈ l.take (k + 1), bytesBefore y s = true) := Lib.hid (fun y hy => by
       rw [List.take_add_one, hp] at hy
       rcases List.mem_append.1 hy with hy | hy
       · exact HL.out y hy
       · simp at hy; rw [hy]; exact hbf)
      have HOA := Lib.hid (HO.out.alloc (.cells #[.string (bk p)] 9))
      have HBA : Hid (Below w.heap.size w (wr.alloc (.cells #[.string (bk p)] 9))) := Lib.hid (HB.out.trans (((Below.refl _ _).alloc (Nat.le_refl _) _).mono HB.out.size))
      have HS1 := Lib.hid (Src.one_new (P := Tryz.prog) (w := wr) (u := .string (bk p)) (t := 9) rfl)
      have hm1 : k + 1 ≤ maxLen := by have := HN.out; unfold maxLen; omega
      have hb1 : (k + 1) * 16 ≤ 140737488355328 := by have := HN.out; omega
      clear HO HB hbf hp
      go_wp2_with (at_builtin; go_loud (refine wpList_append_S rfl (.tmp 19) (.tmp 24) 32 32 rfl i0 (.string ⟨#[]⟩) 16 (.slice 9) Tryz.underlying32 Tryz.underlying32 (fun _ h => by cases h) hi hz0 hz1 hz2 rfl rfl rfl HOA.out HS1.out hm1 hb1 HBA.out.size ?_; intro A8 c8 w8; generalize hnn : k + 1 = nn at *; intro ho8 hg8 hw8))
      have HO8 := Lib.hid ho8
      have HB8 := Lib.hid (HBA.out.grown hg8 HBA.out.size (fun j hj => (HOA.out.lt j hj).1))
      have HNN := Lib.hid hnn
      clear ho8 hg8 hw8 hm1 hb1 hnn
      go_wp2
      go_roundw
      case rel => exact ⟨nn, A8, c8, by rw [← HNN.out]; rfl, rfl, by have := HNN.out; omega, by rw [HTK.out]; exact HO8.out, HB8.out, HL2.out⟩
      case measure => have := HNN.out; simp [intOf]; omega
  · have d0 : decide ((k : Int) < (n : Int)) = false := decide_eq_false (by omega)
    have d0' : decide (k < n) = false := decide_eq_false hlt
    obtain rfl : k = n := by omega
    have HIS := Lib.hid (putS_is (s := s) (k := k) (k' := k) HU.out (by rw [HN.out.1]; exact hk) HL.out (fun y hy => by rw [List.getElem?_eq_none (by have := HN.out.1; omega)] at hy; cases hy) (.inr ⟨rfl, fun y hy => by rw [List.getElem?_eq_none (by have := HN.out.1; omega)] at hy; cases hy⟩))
    clear d0 d0' hlt
    have d0 : decide ((k : Int) < (k : Int)) = false := decide_eq_false (by omega)
    rcases HCASE.out with ⟨rfl, hn0, rfl⟩ | ⟨b, o, rfl⟩
    · subst hn0
      have HOA := Lib.hid (HO.out.alloc (.cells #[.string (bk s)] 9))
      have HBA : Hid (Below w.heap.size w (wr.alloc (.cells #[.string (bk s)] 9))) := Lib.hid (HB.out.trans (((Below.refl _ _).alloc (Nat.le_refl _) _).mono HB.out.size))
      have HS1 := Lib.hid (Src.one_new (P := Tryz.prog) (w := wr) (u := .string (bk s)) (t := 9) rfl)
      have hm1 : 0 + 1 ≤ maxLen := by have := HN.out; unfold maxLen; omega
      have hb1 : (0 + 1) * 16 ≤ 140737488355328 := by have := HN.out; omega
      have hm2 : 0 + 1 + (0) ≤ maxLen := by have := HN.out; unfold maxLen; omega
      have hb2 : (0 + 1 + (0)) * 16 ≤ 140737488355328 := by have := HN.out; omega
      have HSR : Hid (∀ W : World, Below w.heap.size w W → Src Tryz.prog W 1 (.slice none (0) 0) (0) (strVs (l.drop 0))) := Lib.hid (fun W hb => src_noS rfl (List.drop_eq_nil_of_le (by have := HN.out; omega)))
      clear HO HB
      go_upto_region 7 with (at_builtin; go_loud (refine wpList_append_S rfl (.tmp 28) (.tmp 30) 32 32 rfl i0 (.string ⟨#[]⟩) 16 (.slice 9) Tryz.underlying32 Tryz.underlying32 (fun _ h => by cases h) hi hz0 hz1 hz2 rfl rfl rfl HOA.out HS1.out hm1 hb1 HBA.out.size ?_; intro A8 c8 w8; intro ho8 hg8 hw8))
      have HO8 := Lib.hid ho8
      have HB8 := Lib.hid (HBA.out.grown hg8 HBA.out.size (fun j hj => (HOA.out.lt j hj).1))
      clear ho8 hg8 hw8 hm1 hb1
      go_wp2_with (at_builtin; go_loud (refine wpList_append_S rfl (.tmp 46) (.tmp 49) 32 32 rfl i0 (.string ⟨#[]⟩) 16 (.slice 9) Tryz.underlying32 Tryz.underlying32 (fun _ h => by cases h) hi hz0 hz1 hz2 rfl rfl rfl HO8.out (HSR.out _ HB8.out) hm2 hb2 HB8.out.size ?_; intro A9 c9 w9; intro ho9 hg9 hw9))
      have HB9 := Lib.hid (HB8.out.grown hg9 HB8.out.size (fun j hj => (HO8.out.lt j hj).1))
      have HO9 := Lib.hid (ho9.strOf (L := putS s l) (by rw [HIS.out, strVs_app, strVs_app]; rfl))
      clear ho9 hg9 hw9
      go_wp2
      rw [HPO.out]
      exact ⟨HB9.out, A9, c9, by first | (rw [← HO9.out.1]; done) | (rw [← HO9.out.1]; rfl), HO9.out.2⟩
    · have HZ : Hid (k ≤ c) := Lib.hid HCAP.out
      by_cases hck : c = k
      · have HSR : Hid (∀ W : World, Below w.heap.size w W → Src Tryz.prog W 1 (.slice (some ⟨b, o, none⟩) (0) 0) (0) (strVs (l.drop k))) := Lib.hid (fun W hb => src_noS (by have := HCAP.out; omega) (List.drop_eq_nil_of_le (by have := HCAP.out; have := HN.out; omega)))
        have hck2 := hck.symm
        clear hck
        subst hck2
        have HOA := Lib.hid (HO.out.alloc (.cells #[.string (bk s)] 9))
        have HBA : Hid (Below w.heap.size w (wr.alloc (.cells #[.string (bk s)] 9))) := Lib.hid (HB.out.trans (((Below.refl _ _).alloc (Nat.le_refl _) _).mono HB.out.size))
        have HS1 := Lib.hid (Src.one_new (P := Tryz.prog) (w := wr) (u := .string (bk s)) (t := 9) rfl)
        have hm1 : k + 1 ≤ maxLen := by have := HN.out; unfold maxLen; omega
        have hb1 : (k + 1) * 16 ≤ 140737488355328 := by have := HN.out; omega
        have hm2 : k + 1 + (0) ≤ maxLen := by have := HN.out; unfold maxLen; omega
        have hb2 : (k + 1 + (0)) * 16 ≤ 140737488355328 := by have := HN.out; omega
        clear HO HB
        go_upto_region 7 with (at_builtin; go_loud (refine wpList_append_S rfl (.tmp 28) (.tmp 30) 32 32 rfl i0 (.string ⟨#[]⟩) 16 (.slice 9) Tryz.underlying32 Tryz.underlying32 (fun _ h => by cases h) hi hz0 hz1 hz2 rfl rfl rfl HOA.out HS1.out hm1 hb1 HBA.out.size ?_; intro A8 c8 w8; intro ho8 hg8 hw8))
        have HO8 := Lib.hid ho8
        have HB8 := Lib.hid (HBA.out.grown hg8 HBA.out.size (fun j hj => (HOA.out.lt j hj).1))
        clear ho8 hg8 hw8 hm1 hb1
        go_wp2_with (at_builtin; go_loud (refine wpList_append_S rfl (.tmp 46) (.tmp 49) 32 32 rfl i0 (.string ⟨#[]⟩) 16 (.slice 9) Tryz.underlying32 Tryz.underlying32 (fun _ h => by cases h) hi hz0 hz1 hz2 rfl rfl rfl HO8.out (HSR.out _ HB8.out) hm2 hb2 HB8.out.size ?_; intro A9 c9 w9; generalize k + 1 + (0) = n9 at *; intro ho9 hg9 hw9))
        have HB9 := Lib.hid (HB8.out.grown hg9 HB8.out.size (fun j hj => (HO8.out.lt j hj).1))
        have HO9 := Lib.hid (ho9.strOf (L := putS s l) (by rw [HIS.out, strVs_app, strVs_app]; rfl))
        clear ho9 hg9 hw9
        go_wp2
        rw [HPO.out]
        exact ⟨HB9.out, A9, c9, by first | (rw [← HO9.out.1]; done) | (rw [← HO9.out.1]; rfl), HO9.out.2⟩
      · have HSR : Hid (∀ W : World, Below w.heap.size w W → Src Tryz.prog W 1 (.slice (some ⟨b, o + k, none⟩) (0) (c - k)) (0) (strVs (l.drop k))) := Lib.hid (fun W hb => src_tlS (H.out.low W hb) HN.out.1 (by omega) (by omega))
        have HOA := Lib.hid (HO.out.alloc (.cells #[.string (bk s)] 9))
        have HBA : Hid (Below w.heap.size w (wr.alloc (.cells #[.string (bk s)] 9))) := Lib.hid (HB.out.trans (((Below.refl _ _).alloc (Nat.le_refl _) _).mono HB.out.size))
        have HS1 := Lib.hid (Src.one_new (P := Tryz.prog) (w := wr) (u := .string (bk s)) (t := 9) rfl)
        have hm1 : k + 1 ≤ maxLen := by have := HN.out; unfold maxLen; omega
        have hb1 : (k + 1) * 16 ≤ 140737488355328 := by have := HN.out; omega
        have hm2 : k + 1 + (0) ≤ maxLen := by have := HN.out; unfold maxLen; omega
        have hb2 : (k + 1 + (0)) * 16 ≤ 140737488355328 := by have := HN.out; omega
        clear HO HB
        go_upto_region 7 with (at_builtin; go_loud (refine wpList_append_S rfl (.tmp 28) (.tmp 30) 32 32 rfl i0 (.string ⟨#[]⟩) 16 (.slice 9) Tryz.underlying32 Tryz.underlying32 (fun _ h => by cases h) hi hz0 hz1 hz2 rfl rfl rfl HOA.out HS1.out hm1 hb1 HBA.out.size ?_; intro A8 c8 w8; intro ho8 hg8 hw8))
        have HO8 := Lib.hid ho8
        have HB8 := Lib.hid (HBA.out.grown hg8 HBA.out.size (fun j hj => (HOA.out.lt j hj).1))
        clear ho8 hg8 hw8 hm1 hb1
        go_wp2_with (at_builtin; go_loud (refine wpList_append_S rfl (.tmp 46) (.tmp 49) 32 32 rfl i0 (.string ⟨#[]⟩) 16 (.slice 9) Tryz.underlying32 Tryz.underlying32 (fun _ h => by cases h) hi hz0 hz1 hz2 rfl rfl rfl HO8.out (HSR.out _ HB8.out) hm2 hb2 HB8.out.size ?_; intro A9 c9 w9; generalize k + 1 + (0) = n9 at *; intro ho9 hg9 hw9))
        have HB9 := Lib.hid (HB8.out.grown hg9 HB8.out.size (fun j hj => (HO8.out.lt j hj).1))
        have HO9 := Lib.hid (ho9.strOf (L := putS s l) (by rw [HIS.out, strVs_app, strVs_app]; rfl))
        clear ho9 hg9 hw9
        go_wp2
        rw [HPO.out]
        exact ⟨HB9.out, A9, c9, by first | (rw [← HO9.out.1]; done) | (rw [← HO9.out.1]; rfl), HO9.out.2⟩
end Go.Proofs.YtihanglnjghcfaaGreatDoor
namespace Go.Proofs.YtihanglnjghcfaaGreatDoor
open Go.RowKit
set_option linter.unusedVariables false
set_option linter.unusedSimpArgs false

def LinePost (s : ByteArray) (nm : List UInt8) (w : World) (e : Ending) (w' : World) : Prop :=
 ∃ (x : ByteArray) (b : Bool) (s' : ByteArray), e = .returned (.tuple #[.string x, .string s', .bool b]) ∧ FieldR nm s x b s' ∧ Below w.heap.size w w'
set_option maxRecDepth 100000 in
set_option maxHeartbeats 2000000 in
theorem line_any (s : ByteArray) (nm : List UInt8) (w : World) (hs : s.size ≤ 140737488351300) (hn : nm.length ≤ 100) (h10 : (10 : UInt8) ∉ nm) :
 Calls Tryz.prog 71 #[.string s, .string (bk nm)] w (LinePost s nm w) := by
 have HU := Lib.hid (upto_any s 10 w (by omega))
 have HPO : Hid (∀ e w', LinePost s nm w e w' = (∃ (x : ByteArray) (b : Bool) (s' : ByteArray), e = .returned (.tuple #[.string x, .string s', .bool b]) ∧ FieldR nm s x b s' ∧ Below w.heap.size w w')) := Lib.hid (fun _ _ => rfl)
 have z0 : (bk nm ++ (⟨#[32]⟩ : ByteArray)).size = (bk nm).size + 1 := by rw [ByteArray.size_append]; rfl
 have z1 : (bk nm).size = nm.length := bk_size nm
 have HPT : Hid ((bk nm ++ (⟨#[32]⟩ : ByteArray)).toList = nm ++ [32]) := Lib.hid (by rw [Lib.toList_data, ByteArray.data_append, Array.toList_append, bk_list])
 generalize LinePost s nm w = POST at *
 go_enter Tryz.func71, Tryz.ntmps71
 go_wp2_with fail
 refine HU.out.mono ?_
 rintro e w1 ⟨hb, ⟨hno, rfl⟩ | ⟨i, hi, hx, hno, rfl⟩⟩
 · have HB := Lib.hid hb
   have HF : Hid (FieldR nm s ⟨#[]⟩ false s) := Lib.hid (.inr ⟨rfl, fieldL_no nm _ hno, rfl⟩)
   clear hb hno
   go_wp2
   go_ret3
   rw [HPO.out]
   exact ⟨_, _, _, rfl, HF.out, HB.out⟩
 · have HB := Lib.hid hb
   have hfl := fieldL_line nm s.data.toList h10 i hx hno
   have e1 : (s.extract 0 i).data.toList = s.data.toList.take i := by rw [bk_ext0, bk_list]
   have e2 : (s.extract (i + 1) s.size).data.toList = s.data.toList.drop (i + 1) := by rw [bk_extE, bk_list]
   have zl : (s.extract 0 i).size = i := by rw [bk_ext0, bk_size, List.length_take, ← Lib.size_eq]; omega
   by_cases hle : nm.length + 1 ≤ i
   · have d1 : decide ((i : Int) < (nm.length : Int) + 1) = false := decide_eq_false (by omega)
     have d1' : decide (i < nm.length + 1) = false := decide_eq_false (by omega)
     have c2 : (nm.length : Int) + 1 ≤ (i : Int) := by omega
     by_cases hp : (s.data.toList.take i).take (nm.length + 1) = nm ++ [32]
     · have HF : Hid (FieldR nm s ((s.extract 0 i).extract (nm.length + 1) i) true (s.extract (i + 1) s.size)) := Lib.hid (.inl ⟨rfl, by
        rw [hfl, if_pos ⟨hle, hp⟩, e2, bk_ext, bk_list, e1, List.take_take, Nat.min_self]⟩)
       have q1 : (((s.extract 0 i).extract 0 (nm.length + 1)).toList == (bk nm ++ (⟨#[32]⟩ : ByteArray)).toList) = true := by
        rw [HPT.out, Lib.toList_data, bk_ext0, bk_list, e1, beq_iff_eq]; exact hp
       have q2 : (!((s.extract 0 i).extract 0 (nm.length + 1)).toList == (bk nm ++ (⟨#[32]⟩ : ByteArray)).toList) = false := by rw [q1]; rfl
       clear hb hfl e1 e2 hx hno hp hle
       go_wp2
       go_ret3
       rw [HPO.out]
       exact ⟨_, _, _, rfl, HF.out, HB.out⟩
     · have HF : Hid (FieldR nm s ⟨#[]⟩ false s) := Lib.hid (.inr ⟨rfl, by rw [hfl, if_neg (fun h => hp h.2)], rfl⟩)
       have q1 : (((s.extract 0 i).extract 0 (nm.length + 1)).toList == (bk nm ++ (⟨#[32]⟩ : ByteArray)).toList) = false := by
        rw [HPT.out, Lib.toList_data, bk_ext0, bk_list, e1, beq_eq_false_iff_ne]; exact hp
       have q2 : (!((s.extract 0 i).extract 0 (nm.length + 1)).toList == (bk nm ++ (⟨#[32]⟩ : ByteArray)).toList) = true := by rw [q1]; rfl
       clear hb hfl e1 e2 hx hno hp hle
       go_wp2
       go_ret3
       rw [HPO.out]
       exact ⟨_, _, _, rfl, HF.out, HB.out⟩
   · have d1 : decide ((i : Int) < (nm.length : Int) + 1) = true := decide_eq_true (by omega)
     have d1' : decide (i < nm.length + 1) = true := decide_eq_true (by omega)
     have HF : Hid (FieldR nm s ⟨#[]⟩ false s) := Lib.hid (.inr ⟨rfl, by rw [hfl, if_neg (fun h => hle h.1)], rfl⟩)
     clear hb hfl e1 e2 hx hno hle
     go_wp2
     go_ret3
     rw [HPO.out]
     exact ⟨_, _, _, rfl, HF.out, HB.out⟩
end Go.Proofs.YtihanglnjghcfaaGreatDoor
