/- The program's look, walked. -/
import Derived.Test.YtihanglnjghcfaaGreatDoorGLn10
namespace Go.Proofs.YtihanglnjghcfaaGreatDoor
open Go.RowKit Go.Maps
set_option linter.unusedVariables false
set_option linter.unusedSimpArgs false

structure MethW (name : String) (t : TypeId) (v : Value) (f : FuncId) (r : Value) : Prop where
 look : ∀ W : World, (method (Tryz.prog.types.size + Made.depth) t v name).run Tryz.prog W = .ok (f, r) W
 ent : ∀ W : World, (callFunc f #[r]).run Tryz.prog W = .ok (.enter f #[r]) W
/-- An object above B with its methods: what Links and Kind tell in every later world. -/
structure OMeth (B : Nat) (w : World) (kd : Int) (ks : List Lk) (t : TypeId) (v : Value) (fl fk : FuncId) (rl rk : Value) : Prop where
 mlk : MethW "Links" t v fl rl
 mkd : MethW "Kind" t v fk rk
 clk : ∀ w1, Chg (fun k => k < B) w w1 → Calls Tryz.prog fl #[rl] w1 (LinksPost ks w1)
 ckd : ∀ w1, Calls Tryz.prog fk #[rk] w1 (KdPost kd w1)
theorem ObjIs.methW {w : World} {B : Nat} {kd : Int} {b : List UInt8} {IF : Value} (h : ObjIs w B kd b IF) (hs : b.length ≤ 1099511627775) :
 ∃ ks t v fl fk rl rk, lkOf kd b = some ks ∧ IF = .iface t v ∧ OMeth B w kd ks t v fl fk rl rk := by
 rcases h with ⟨rfl, r, A, hr, rfl, ho⟩ | ⟨rfl, L, A, hL, rfl, ho⟩ | ⟨rfl, v, rfl⟩ | ⟨rfl, r, hr, rfl⟩
 · have hn := commit_num hr
   exact ⟨comK (bk r.t) (r.P.map bk), _, _, 186, 185, .agg #[.string (bk r.t), .slice A r.P.length r.P.length, .string (bk r.a), .string (bk r.c), .string (bk r.m)], .agg #[.string (bk r.t), .slice A r.P.length r.P.length, .string (bk r.a), .string (bk r.c), .string (bk r.m)], by unfold lkOf; rw [if_pos rfl, hr]; rfl, rfl,
    ⟨fun W => by kernel_rfl, fun W => enters_of Tryz.func186 (by kernel_rfl) rfl _ _⟩, ⟨fun W => by kernel_rfl, fun W => enters_of Tryz.func185 (by kernel_rfl) rfl _ _⟩,
    fun w1 hc => linksCommit_any _ A r.P.length r.P.length (r.P.map bk) _ _ _ w1 (ho.chgB hc).strsAt (by simp) (by omega), fun w1 => kindCommit _ _ _ _ _ w1⟩
 · have hn := treeU_num _ _ _ _ hL
   simp only [List.length_nil, Nat.zero_add] at hn
   exact ⟨treeK L, _, _, 193, 192, .agg #[.slice A L.length L.length], .agg #[.slice A L.length L.length], by unfold lkOf; rw [if_neg (by decide), if_pos rfl, hL]; rfl, rfl,
    ⟨fun W => by kernel_rfl, fun W => enters_of Tryz.func193 (by kernel_rfl) rfl _ _⟩, ⟨fun W => by kernel_rfl, fun W => enters_of Tryz.func192 (by kernel_rfl) rfl _ _⟩,
    fun w1 hc => linksTree_any A L.length L.length L w1 (ho.chgB hc).entsAt rfl (by omega), fun w1 => kindTree _ w1⟩
 · exact ⟨[], _, _, 190, 189, .agg #[v], .agg #[v], by unfold lkOf; simp, rfl,
  ⟨fun W => by kernel_rfl, fun W => enters_of Tryz.func190 (by kernel_rfl) rfl _ _⟩, ⟨fun W => by kernel_rfl, fun W => enters_of Tryz.func189 (by kernel_rfl) rfl _ _⟩,
  fun w1 hc => linksBlob_any _ w1, fun w1 => kindBlob _ w1⟩
 · exact ⟨[⟨bk r.o, (r.k : Int)⟩], _, _, 183, 182, .agg #[.string (bk r.o), .int .i64 (r.k : Int), .string (bk r.n), .string (bk r.g), .string (bk r.m)], .agg #[.string (bk r.o), .int .i64 (r.k : Int), .string (bk r.n), .string (bk r.g), .string (bk r.m)], by unfold lkOf; rw [if_neg (by decide), if_neg (by decide), if_neg (by decide), if_pos rfl, hr]; rfl, rfl,
  ⟨fun W => by kernel_rfl, fun W => enters_of Tryz.func183 (by kernel_rfl) rfl _ _⟩, ⟨fun W => by kernel_rfl, fun W => enters_of Tryz.func182 (by kernel_rfl) rfl _ _⟩,
  fun w1 hc => linksTag_any _ _ _ _ _ w1, fun w1 => kindTag _ _ _ _ _ w1⟩
theorem mdepth : Tryz.prog.types.size + Made.depth = 331 := by kernel_rfl
def IKd (w0 : World) (kd : Int) : List Value → World → Prop
 | [], w => Below w0.heap.size w0 w
 | v :: _, w => v = .int .i64 kd ∧ Below w0.heap.size w0 w
theorem iKd_low {w0 w : World} {kd : Int} {vs : List Value} (h : IKd w0 kd vs w) : Below w0.heap.size w0 w := by
 match vs, h with
 | [], h => exact h
 | _ :: _, h => exact h.2
/-- The walk's blocks: what is not the getter's, from B on. -/
def KOf (B : Nat) (F : Nat → Prop) (k : Nat) : Prop := B ≤ k ∧ ¬ F k
def LookPost (St : (Nat → Prop) → List Gid → World → Prop) (F : Nat → Prop) (qs : List Gid) (B g : Nat) (get : Value) (easy : Bool) (d : Gid) (r : List Git × Int) (w : World) (e : Ending) (w' : World) : Prop :=
 e = .returned (.int .i64 r.2) ∧ ∃ F', St F' (qs ++ [d]) w' ∧ (∀ k, F' k → F k ∨ w.heap.size ≤ k) ∧ Chg (fun k => F k ∨ KOf B F k) w w' ∧ WalkAt w' (KOf B F') g get easy r.1
theorem WalkAt.getter {w w1 : World} {B g : Nat} {F F1 : Nat → Prop} {get : Value} {easy : Bool} {l : List Git} (h : WalkAt w (KOf B F) g get easy l) (hc : Chg F w w1) (hf : ∀ k, F1 k → F k ∨ w.heap.size ≤ k) : WalkAt w1 (KOf B F1) g get easy l :=
 h.keep hc (fun k hk _ => hk.2) fun k hk hl => ⟨hk.1, fun hf1 => (hf k hf1).elim hk.2 (fun h => by omega)⟩
set_option maxRecDepth 100000 in
set_option maxHeartbeats 4000000 in
theorem lookN_any {f : FuncId} {c1 c2 : Value} {G : Gid → Option Kn} {St : (Nat → Prop) → List Gid → World → Prop} {N : Nat} (hg : GetterN N f c1 c2 G St) (F : Nat → Prop) (qs : List Gid) (w : World) (B g i : Nat) (easy : Bool) (l : List Git) (x : Git)
 (hq : qs.length < N) (hS : St F qs w) (hE : EnvO w) (ht1 : 1 < B) (ht2 : 2 < B) (h1 : ¬ F 1) (h2 : ¬ F 2) (hB : B ≤ w.heap.size)
 (hW : WalkAt w (KOf B F) g (fnV f c1 c2) easy l) (hx : l[i]? = some x) (hl : l.length ≤ 536870912) (hz : ∀ o, G x.id = some o → o.b.length ≤ 268435456) :
 Calls Tryz.prog 36 #[.pointer (some ⟨g, 0, none⟩), .int .i64 (i : Int)] w (LookPost St F qs B g (fnV f c1 c2) easy x.id (lookW easy (fun d => (G d).map gobK) l i) w) := by
 have HW := Lib.hid hW
 obtain ⟨hgK, A, c, m, n, hce, how, hoK, hmp, hnl, hmK⟩ := hW
 obtain ⟨b, o, rfl, _, hbl, hcl⟩ := OwnS.flat itV_len (by decide) how hx
 have k0 : w.cell? ⟨g, 0, none⟩ = some (fnV f c1 c2) := hce.cell 0 (by decide)
 have k1 : w.cell? ⟨g, 1, none⟩ = some (.slice (some ⟨b, o, none⟩) l.length c) := hce.cell 1 (by decide)
 have f0 : w.cell? ⟨b, o + i * 2, none⟩ = some (.string (bk x.id)) := hcl 0 (by decide)
 have hil : i < l.length := (List.getElem?_eq_some_iff.1 hx).1
 have hll2 : ¬ (l.length : Int) ≤ i := by omega
 have hi0 : (0 : Int) ≤ i := by omega
 have hlc : (i : Int) < l.length := by omega
 have hask := askN_any hg F qs w.drew x.id hq (hg.keep hS ((Chg.refl (fun _ => False) w).drew) (fun _ _ h => h)) (hE.chg ((Chg.refl (fun _ => False) w).drew) (fun h => h) (fun h => h)) h1 h2 (fun o ho => by have := hz o ho; omega)
 have HG := Lib.hid hg
 have HT := Lib.hid (And.intro ht1 (And.intro ht2 (And.intro h1 h2)))
 have HE := Lib.hid hE
 have HN := Lib.hid (And.intro hil (And.intro hl hB))
 have HZ := Lib.hid hz
 have HX := Lib.hid hx
 clear hg hq hS hE ht1 ht2 h1 h2 hce how hoK hmp hnl hmK hgK hcl hbl hil hl hB hz hx
 have HA : Hid (Calls Tryz.prog 41 #[fnV f c1 c2, .string (bk x.id)] w.drew fun e w' => ∃ a b F1, e = .returned (.tuple #[a, b]) ∧ (St F1 (qs ++ [x.id]) w' ∧ Chg F w.drew w' ∧ (∀ k, F1 k → F k ∨ w.drew.heap.size ≤ k) ∧ AskAns (G x.id) w.drew w' F1 (.returned (.tuple #[a, b])))) := Lib.hid (hask.mono fun e w' h => by
  obtain ⟨F1, a1, a2, a3, a4⟩ := h
  have key : ∃ a b, e = .returned (.tuple #[a, b]) := by
   unfold AskAns at a4
   split at a4
   · exact ⟨_, _, a4⟩
   · rcases a4 with ⟨_, h⟩ | ⟨IF, B1, h, _⟩ <;> exact ⟨_, _, h⟩
  obtain ⟨a, b, rfl⟩ := key
  exact ⟨a, b, F1, rfl, a1, a2, a3, a4⟩)
 clear hask
 unfold fnV at *
 go_enter Tryz.func36, Tryz.ntmps36
 go_upto_region 1 with (fail)
 go_cut [5, 6] (fun v5 v6 wx => ∃ F1, St F1 (qs ++ [x.id]) wx ∧ Chg F w wx ∧ (∀ k, F1 k → F k ∨ w.heap.size ≤ k) ∧ AskAns (G x.id) w.drew wx F1 (.returned (.tuple #[v5, v6])))
 case first => as_aux_lemma =>
  go_region_with (refine HA.out.mono ?_; rintro e w1 ⟨a1, b1, F1, rfl, hs1, hc1, hr1⟩; have HF := Lib.hid (And.intro hs1 (And.intro (((Chg.refl F w).drew).trans hc1 (fun _ _ h => h)) hr1)); clear hs1 hc1 hr1)
  all_goals (go_wp2_with fail; go_meet; exact ⟨F1, HF.out⟩)
 case rest =>
  obtain ⟨F1, hs1, hc1, hf1, ha1⟩ := hcut
  have HF := Lib.hid (And.intro hs1 (And.intro hc1 hf1))
  have HA1 := Lib.hid ha1
  clear hs1 hc1 hf1 ha1 HA
  cases hgd : G x.id with
  | none =>
   have HR : Hid (lookW easy (fun d => (G d).map gobK) l i = (l, 61)) := Lib.hid (by unfold lookW; simp only [HX.out, hgd, Option.map_none])
   have h9 := HA1.out
   rw [hgd] at h9
   unfold AskAns at h9
   simp only [Ending.returned.injEq, Value.tuple.injEq, Array.mk.injEq, List.cons.injEq, and_true] at h9
   obtain ⟨rfl, rfl⟩ := h9
   clear HA1 hgd
   go_wp2
   go_ret
   rw [HR.out]
   exact ⟨rfl, F1, HF.out.1, HF.out.2.2, HF.out.2.1.mono (fun k _ h => .inl h), HW.out.getter HF.out.2.1 HF.out.2.2⟩
  | some o9 =>
   have HZ9 := Lib.hid (HZ.out o9 hgd)
   cases hlk : lkOf o9.kd o9.b with
   | none =>
    have HR : Hid (lookW easy (fun d => (G d).map gobK) l i = (l, 3)) := Lib.hid (by unfold lookW; simp only [HX.out, hgd, Option.map_some]; unfold gobK; simp only [hlk, Option.map_none])
    have h9 := HA1.out
    rw [hgd] at h9
    rcases h9 with ⟨_, h9⟩ | ⟨_, _, _, _, _, h9, _⟩
    · simp only [Ending.returned.injEq, Value.tuple.injEq, Array.mk.injEq, List.cons.injEq, and_true] at h9
      obtain ⟨rfl, rfl⟩ := h9
      clear HA1 hgd
      go_wp2
      go_ret
      rw [HR.out]
      exact ⟨rfl, F1, HF.out.1, HF.out.2.2, HF.out.2.1.mono (fun k _ h => .inl h), HW.out.getter HF.out.2.1 HF.out.2.2⟩
    · exact absurd hlk h9
   | some ks =>
    have HLE := Lib.hid (lkOf_each hlk)
    have HLN := Lib.hid (lkOf_num hlk)
    have HGB : Hid (gobK o9 = ⟨o9.kd, o9.id, some (ks.map lkG), paOf o9.kd o9.b, tgOf o9.kd o9.b⟩) := Lib.hid (by unfold gobK; rw [hlk]; rfl)
    have HGD := Lib.hid hgd
    have h9 := HA1.out
    rw [hgd] at h9
    rcases h9 with ⟨h9, _⟩ | ⟨IF, B1, h9, hB1, hFB, _, ho9⟩
    · rw [hlk] at h9; cases h9
    · simp only [Ending.returned.injEq, Value.tuple.injEq, Array.mk.injEq, List.cons.injEq, and_true] at h9
      obtain ⟨rfl, rfl⟩ := h9
      obtain ⟨ks', t, v, fl, fk, rl, rk, e1, rfl, hm⟩ := ho9.methW (by have := HZ9.out; omega)
      rw [hlk] at e1
      injection e1 with e1
      subst e1
      have HM := Lib.hid hm
      have HBB := Lib.hid (And.intro hB1 hFB)
      clear HA1 hgd hlk hm hB1 hFB ho9
      generalize wc = w5 at *
      have HW5 : Hid (WalkAt w5 (fun k => k < w.heap.size ∧ KOf B F1 k) g (.func (.func f) #[] #[c1, c2]) easy l) := Lib.hid (HW.out.keep HF.out.2.1 (fun k hk _ => hk.2) fun k hk hl => ⟨hl, hk.1, fun hf1 => (HF.out.2.2 k hf1).elim hk.2 (fun h => by omega)⟩)
      clear k0 k1 f0
      obtain ⟨hgK, A2, c2', m2, n2, hce2, how2, hoK2, hmp2, hnl2, hmK2⟩ := HW5.out
      obtain ⟨b2, o2, rfl, _, hbl2, hcl2⟩ := OwnS.flat itV_len (by decide) how2 HX.out
      have k1 : w5.cell? ⟨g, 1, none⟩ = some (.slice (some ⟨b2, o2, none⟩) l.length c2') := hce2.cell 1 (by decide)
      have f1 : w5.cell? ⟨b2, o2 + i * 2 + 1, none⟩ = some (.int .i64 x.kd) := hcl2 1 (by decide)
      have HBL := Lib.hid hbl2
      have HCE2 := Lib.hid hce2
      have HKS := Lib.hid (And.intro hgK (And.intro hoK2 (And.intro hnl2 hmK2)))
      have HOW2 := Lib.hid how2
      have HMP2 := Lib.hid hmp2
      clear hgK hce2 how2 hoK2 hmp2 hnl2 hmK2 hcl2 hbl2
      have hmk := HM.out.mkd.look
      have hme := HM.out.mkd.ent
      rw [mdepth] at hmk
      go_upto_region 5 with (fail)
      go_cut [48] (fun v48 wx => ∃ bb : Bool, v48 = .bool bb ∧ bb = decide (x.kd ≠ 0 ∧ x.kd ≠ o9.kd) ∧ Below w5.heap.size w5 wx)
      case first => as_aux_lemma =>
       by_cases h0 : x.kd = 0
       · have d1 : (x.kd == 0) = true := by rw [beq_iff_eq]; exact h0
         have HD : Hid (decide (x.kd ≠ 0 ∧ x.kd ≠ o9.kd) = false) := Lib.hid (by simp [h0])
         go_quiet (fail)
         go_wp2_with fail
         go_meet
         exact ⟨false, rfl, HD.out.symm, Below.drewN (Below.refl _ _) _⟩
       · have d1 : (x.kd == 0) = false := by rw [beq_eq_false_iff_ne]; exact h0
         have HD : Hid (decide (x.kd ≠ 0 ∧ x.kd ≠ o9.kd) = (x.kd != o9.kd)) := Lib.hid (by by_cases h : x.kd = o9.kd <;> simp [h0, h])
         have HW0 := Lib.hid (show IKd w5 o9.kd [] w5.drew from (Below.refl _ _).drew)
         have HK1 := Lib.hid f1
         refine wp_region_ph (by kernel_rfl) [11] [.span 0 0, .span 0 0, .span 0 0, .span 0 0, .span 0 0, .span 0 0, .span 0 1, .span 0 1, .span 0 1, .span 0 1, .span 0 0, .phase 0, .span 1 1, .span 1 1] [fun z9 => z9 = .pointer (some ⟨b2, o2 + i * 2, none⟩), fun z9 => z9 = .pointer (some ⟨b2, o2 + i * 2, none⟩), fun z9 => z9 = .pointer (some ⟨b2, o2 + i * 2 + 1, none⟩), fun z9 => z9 = .int .i64 x.kd, fun z9 => z9 = .bool true, fun z9 => z9 = .bool true, fun z9 => z9 = .pointer (some ⟨b2, o2 + i * 2, none⟩), fun z9 => z9 = .pointer (some ⟨b2, o2 + i * 2, none⟩), fun z9 => z9 = .pointer (some ⟨b2, o2 + i * 2 + 1, none⟩), fun z9 => z9 = .int .i64 x.kd, fun z9 => z9 = .iface t v, fun z9 => z9 = .int .i64 o9.kd, fun z9 => z9 = .bool (x.kd != o9.kd), fun z9 => z9 = .bool (x.kd != o9.kd)] ((IKd w5 o9.kd)) (by kernel_rfl) (by kernel_rfl) (by kernel_rfl) (by kernel_rfl) (by kernel_rfl) (by kernel_rfl) rfl rfl (HW0.out) ?steps ?done
         case steps =>
          refine ⟨?_, ?_, ?_, ?_, ?_, ?_, ?_, ?_, ?_, ?_, ?_, ?_, ?_, ?_, trivial⟩
          · intro us au w1 k0 hlo hhi ha hd hst hI
            obtain rfl : k0 = 0 := by omega
            have q7 := slot_far (t := 7) (v := .pointer (some ⟨b2, o2 + i * 2, none⟩)) ha (by kernel_rfl) (by kernel_rfl)
            have p7 := slot_norm q7
            clear ha hd hst
            exact StepI.pure (v := .pointer (some ⟨b2, o2 + i * 2, none⟩)) rfl rfl (by go_simp) ⟨rfl, hI⟩
          · intro us au w1 k1 hlo hhi ha hd hst hI
            obtain rfl : k1 = 0 := by omega
            have e0 := hd 0 _ (by kernel_rfl) rfl
            have q35 := slot_at (t := 35) 0 ha (by kernel_rfl) (by kernel_rfl) (by kernel_rfl) e0
            have p35 := slot_norm q35
            clear ha hd hst
            exact StepI.pure (v := .pointer (some ⟨b2, o2 + i * 2, none⟩)) rfl rfl (by go_simp) ⟨rfl, hI⟩
          · intro us au w1 k2 hlo hhi ha hd hst hI
            obtain rfl : k2 = 0 := by omega
            have e1 := hd 1 _ (by kernel_rfl) rfl
            have q36 := slot_at (t := 36) 1 ha (by kernel_rfl) (by kernel_rfl) (by kernel_rfl) e1
            have p36 := slot_norm q36
            clear ha hd hst
            exact StepI.pure (v := .pointer (some ⟨b2, o2 + i * 2 + 1, none⟩)) rfl rfl (by go_simp) ⟨rfl, hI⟩
          · intro us au w1 k3 hlo hhi ha hd hst hI
            obtain rfl : k3 = 0 := by omega
            have e2 := hd 2 _ (by kernel_rfl) rfl
            have q37 := slot_at (t := 37) 2 ha (by kernel_rfl) (by kernel_rfl) (by kernel_rfl) e2
            have p37 := slot_norm q37
            clear ha hd hst
            have kk : w1.cell? ⟨b2, o2 + i * 2 + 1, none⟩ = some (.int .i64 x.kd) := ((iKd_low hI).cell (p := ⟨b2, o2 + i * 2 + 1, none⟩) HBL.out).trans HK1.out
            exact StepI.pure (v := .int .i64 x.kd) rfl rfl (by go_simp) ⟨rfl, hI⟩
          · intro us au w1 k4 hlo hhi ha hd hst hI
            obtain rfl : k4 = 0 := by omega
            have e3 := hd 3 _ (by kernel_rfl) rfl
            have q38 := slot_at (t := 38) 3 ha (by kernel_rfl) (by kernel_rfl) (by kernel_rfl) e3
            have p38 := slot_norm q38
            clear ha hd hst
            exact StepI.pure (v := .bool true) rfl rfl (by go_simp) ⟨rfl, hI⟩
          · intro us au w1 k5 hlo hhi ha hd hst hI
            obtain rfl : k5 = 0 := by omega
            have e4 := hd 4 _ (by kernel_rfl) rfl
            have q39 := slot_at (t := 39) 4 ha (by kernel_rfl) (by kernel_rfl) (by kernel_rfl) e4
            have p39 := slot_norm q39
            clear ha hd hst
            exact StepI.pure (v := .bool true) rfl rfl (by go_simp) ⟨rfl, hI⟩
          · intro us au w1 k6 hlo hhi ha hd hst hI
            have e5 := hd 5 _ (by kernel_rfl) rfl
            have q7 := slot_far (t := 7) (v := .pointer (some ⟨b2, o2 + i * 2, none⟩)) ha (by kernel_rfl) (by kernel_rfl)
            have p7 := slot_norm q7
            have hg := slot_at (t := 40) 5 ha (by kernel_rfl) (by kernel_rfl) (by kernel_rfl) e5
            clear ha hd hst
            exact StepI.pure (v := .pointer (some ⟨b2, o2 + i * 2, none⟩)) rfl (wanted_at rfl rfl hg) (by go_simp) ⟨rfl, hI⟩
          · intro us au w1 k7 hlo hhi ha hd hst hI
            have e6 := hd 6 _ (by kernel_rfl) rfl
            have e5 := hd 5 _ (by kernel_rfl) rfl
            have q41 := slot_at (t := 41) 6 ha (by kernel_rfl) (by kernel_rfl) (by kernel_rfl) e6
            have p41 := slot_norm q41
            have hg := slot_at (t := 40) 5 ha (by kernel_rfl) (by kernel_rfl) (by kernel_rfl) e5
            clear ha hd hst
            exact StepI.pure (v := .pointer (some ⟨b2, o2 + i * 2, none⟩)) rfl (wanted_at rfl rfl hg) (by go_simp) ⟨rfl, hI⟩
          · intro us au w1 k8 hlo hhi ha hd hst hI
            have e7 := hd 7 _ (by kernel_rfl) rfl
            have e5 := hd 5 _ (by kernel_rfl) rfl
            have q42 := slot_at (t := 42) 7 ha (by kernel_rfl) (by kernel_rfl) (by kernel_rfl) e7
            have p42 := slot_norm q42
            have hg := slot_at (t := 40) 5 ha (by kernel_rfl) (by kernel_rfl) (by kernel_rfl) e5
            clear ha hd hst
            exact StepI.pure (v := .pointer (some ⟨b2, o2 + i * 2 + 1, none⟩)) rfl (wanted_at rfl rfl hg) (by go_simp) ⟨rfl, hI⟩
          · intro us au w1 k9 hlo hhi ha hd hst hI
            have e8 := hd 8 _ (by kernel_rfl) rfl
            have e5 := hd 5 _ (by kernel_rfl) rfl
            have q43 := slot_at (t := 43) 8 ha (by kernel_rfl) (by kernel_rfl) (by kernel_rfl) e8
            have p43 := slot_norm q43
            have hg := slot_at (t := 40) 5 ha (by kernel_rfl) (by kernel_rfl) (by kernel_rfl) e5
            clear ha hd hst
            have kk : w1.cell? ⟨b2, o2 + i * 2 + 1, none⟩ = some (.int .i64 x.kd) := ((iKd_low hI).cell (p := ⟨b2, o2 + i * 2 + 1, none⟩) HBL.out).trans HK1.out
            exact StepI.pure (v := .int .i64 x.kd) rfl (wanted_at rfl rfl hg) (by go_simp) ⟨rfl, hI⟩
          · intro us au w1 k10 hlo hhi ha hd hst hI
            obtain rfl : k10 = 0 := by omega
            have e5 := hd 5 _ (by kernel_rfl) rfl
            have q5 := slot_far (t := 5) (v := .iface t v) ha (by kernel_rfl) (by kernel_rfl)
            have p5 := slot_norm q5
            have hg := slot_at (t := 40) 5 ha (by kernel_rfl) (by kernel_rfl) (by kernel_rfl) e5
            clear ha hd hst
            exact StepI.pure (v := .iface t v) rfl (wanted_at rfl rfl hg) (by go_simp) ⟨rfl, hI⟩
          · intro us au w1 ha hd hst hI
            have e10 := hd 10 _ (by kernel_rfl) rfl
            have e5 := hd 5 _ (by kernel_rfl) rfl
            have q45 := slot_at (t := 45) 10 ha (by kernel_rfl) (by kernel_rfl) (by kernel_rfl) e10
            have p45 := slot_norm q45
            have hg := slot_at (t := 40) 5 ha (by kernel_rfl) (by kernel_rfl) (by kernel_rfl) e5
            clear ha hd hst
            refine StepI.call (f := fk) (args := #[rk]) rfl (wanted_at rfl rfl hg) (run_invoke (x := .tmp 45) (name := "Kind") (t := t) (v := v) rfl (by go_simp) (by rw [mdepth]; exact hmk w1) (hme w1)) ?_
            refine (HM.out.ckd w1).mono ?_
            rintro e w6 ⟨rfl, hb⟩
            exact ⟨_, rfl, rfl, rfl, Below.trans hI (hb.mono (Below.size hI))⟩
          · intro us au w1 k12 hlo hhi ha hd hst hI
            obtain rfl : k12 = 1 := by omega
            have e9 := hd 9 _ (by kernel_rfl) rfl
            have e11 := hd 11 _ (by kernel_rfl) rfl
            have e5 := hd 5 _ (by kernel_rfl) rfl
            have q44 := slot_at (t := 44) 9 ha (by kernel_rfl) (by kernel_rfl) (by kernel_rfl) e9
            have p44 := slot_norm q44
            have q46 := slot_at (t := 46) 11 ha (by kernel_rfl) (by kernel_rfl) (by kernel_rfl) e11
            have p46 := slot_norm q46
            have hg := slot_at (t := 40) 5 ha (by kernel_rfl) (by kernel_rfl) (by kernel_rfl) e5
            clear ha hd hst
            exact StepI.pure (v := .bool (x.kd != o9.kd)) rfl (wanted_at rfl rfl hg) (by go_simp) ⟨rfl, hI⟩
          · intro us au w1 k13 hlo hhi ha hd hst hI
            obtain rfl : k13 = 1 := by omega
            have e5 := hd 5 _ (by kernel_rfl) rfl
            have e12 := hd 12 _ (by kernel_rfl) rfl
            have q40 := slot_at (t := 40) 5 ha (by kernel_rfl) (by kernel_rfl) (by kernel_rfl) e5
            have p40 := slot_norm q40
            have q47 := slot_at (t := 47) 12 ha (by kernel_rfl) (by kernel_rfl) (by kernel_rfl) e12
            have p47 := slot_norm q47
            clear ha hd hst
            exact StepI.pure (v := .bool (x.kd != o9.kd)) rfl rfl (by go_simp) ⟨rfl, hI⟩
         case done =>
          intro us w1 hI hd
          have e13 := hd 13 _ (by show 13 < 14; decide) rfl
          have HI := Lib.hid hI
          clear hd hI
          simp only [putAll, e13]
          go_simp
          go_wp2_with fail
          go_meet
          exact ⟨_, rfl, HD.out.symm, iKd_low HI.out⟩
      case rest =>
       obtain ⟨bb, rfl, hbb, hb6⟩ := hcut
       generalize wc = w6 at *
       have HB6 := Lib.hid hb6
       have HLS := Lib.hid (HG.out.low HF.out.1)
       have HKF : Hid (∀ W, (fun k => k < w.heap.size ∧ KOf B F1 k) W → (fun k => F k ∨ KOf B F k) W) := Lib.hid (fun k hk => Classical.byCases (fun h : F k => .inl h) (fun h => .inr ⟨hk.2.1, h⟩))
       by_cases hm : x.kd ≠ 0 ∧ x.kd ≠ o9.kd
       · obtain rfl : bb = true := hbb.trans (decide_eq_true hm)
         have HR : Hid (lookW easy (fun d => (G d).map gobK) l i = (l, 3)) := Lib.hid (by unfold lookW; simp only [HX.out, HGD.out, Option.map_some]; rw [HGB.out]; simp only [if_pos hm])
         clear hb6 hm hbb
         go_wp2
         go_ret
         rw [HR.out]
         refine ⟨rfl, F1, HG.out.keep HF.out.1 (Chg.of_below (S := fun k => w5.heap.size ≤ k) HB6.out) (fun k hk => Nat.not_le.2 (HLS.out k hk)), HF.out.2.2, (HF.out.2.1.mono (fun k _ h => .inl h)).trans (Chg.of_below (S := fun _ => False) HB6.out) (fun _ _ h => h.elim), ?_⟩
         exact HW5.out.keep (Chg.of_below (S := fun k => w5.heap.size ≤ k) HB6.out) (fun k hk hl h => by omega) (fun k hk _ => hk.2)
       · obtain rfl : bb = false := hbb.trans (decide_eq_false hm)
         have HR : Hid (lookW easy (fun d => (G d).map gobK) l i = ((linksW easy (l.modify i fun y => ⟨y.id, o9.kd⟩) (ks.map lkG)).1, if (linksW easy (l.modify i fun y => ⟨y.id, o9.kd⟩) (ks.map lkG)).2 then 0 else 3)) := Lib.hid (by unfold lookW; simp only [HX.out, HGD.out, Option.map_some]; rw [HGB.out]; simp only [if_neg hm])
         clear hb6 hm hbb
         have hmk2 := HM.out.mkd.look
         rw [mdepth] at hmk2
         have hme2 := HM.out.mkd.ent
         go_wp2_with fail
         refine (HM.out.ckd w6).mono ?_
         rintro e w7 ⟨rfl, hb7⟩
         have HB7 := Lib.hid (HB6.out.trans (hb7.mono HB6.out.size))
         have HC7 : Hid (Chg (fun k => w5.heap.size ≤ k) w5 w7) := Lib.hid (Chg.of_below HB7.out)
         have HF7 : Hid (∀ k, k < w5.heap.size → ¬ w5.heap.size ≤ k) := Lib.hid (fun k h => by omega)
         have hce7 := HCE2.out.chg HC7.out (HF7.out g HCE2.out.blk)
         have how7 := HOW2.out.chg HC7.out (fun k hk => HF7.out k (HOW2.out.lt k hk).2)
         have hmp7 := HMP2.out.chg HC7.out (HF7.out m2 HMP2.out.lt)
         have hset := setKind HKS.out.1 hce7 how7 HKS.out.2.1 hmp7 HKS.out.2.2.1 HKS.out.2.2.2 HX.out o9.kd
         have hfl := flat_len 2 itV itV_len l
         have hfr := how7.free (j := i * 2 + 1) (by rw [hfl]; have := HN.out.1; omega)
         rw [← Nat.add_assoc] at hfr
         obtain ⟨fz, u7, f7⟩ := hfr
         have HST := Lib.hid hset
         clear hb7 hce7 how7 hmp7 hset hfl hmk2 hme2
         go_upto_region 8 with (fail)
         generalize hw8 : w7.setCell ⟨b2, o2 + i * 2 + 1, none⟩ (.int .i64 o9.kd) = w8 at *
         clear fz f7 hw8
         have HC8 : Hid (Chg (fun k => k < B1) w5 w8) := Lib.hid ((Chg.of_below (S := fun k => k < B1) HB7.out).trans HST.out.2 (fun k _ hk => by have := HBB.out.1; have h2 := hk.1; have h3 : w.drew.heap.size = w.heap.size := rfl; omega))
         have HLK : Hid (Calls Tryz.prog 59 #[.iface t v] w8 (LinksPost ks w8)) := Lib.hid (links_any (.iface t v) w8 (LinksPost ks w8) ⟨t, v, fl, rl, rfl, HM.out.mlk.look w8, HM.out.mlk.ent w8, HM.out.clk w8 HC8.out⟩ (fun e w' h => ⟨_, h.2.choose_spec.1⟩))
         go_wp2_with fail
         refine HLK.out.mono ?_
         rintro e w9 ⟨hb9, A9, rfl, ho9⟩
         have HB9 := Lib.hid hb9
         have HO9 := Lib.hid ho9
         have HW9 : Hid (WalkAt w9 (fun k => (k < w.heap.size ∧ KOf B F1 k) ∨ w9.heap.size ≤ k) g (.func (.func f) #[] #[c1, c2]) easy (l.modify i fun y => ⟨y.id, o9.kd⟩)) := Lib.hid (HST.out.1.keep (Chg.of_below (S := fun k => w8.heap.size ≤ k) hb9) (fun k _ h1 h2 => by omega) (fun k hk _ => .inl hk))
         have HC9 : Hid (Chg (fun k => F k ∨ KOf B F k) w w9 ∧ St F1 (qs ++ [x.id]) w9 ∧ ∀ k, F1 k → k < w9.heap.size) := Lib.hid (by
          have h58 : Chg (fun k => F k ∨ KOf B F k) w5 w8 := (Chg.of_below (S := fun k => F k ∨ KOf B F k) HB7.out).trans HST.out.2 (fun k _ hk => HKF.out k hk)
          have hs58 : Chg (fun k => ¬ F1 k) w5 w8 := (Chg.of_below (S := fun k => ¬ F1 k) HB7.out).trans HST.out.2 (fun k _ hk => hk.2.2)
          refine ⟨((HF.out.2.1.mono (fun k _ h => .inl h)).trans h58 (fun _ _ h => h)).trans (Chg.of_below (S := fun _ => False) hb9) (fun _ _ h => h.elim), ?_, fun k hk => ?_⟩
          · refine HG.out.keep (HG.out.keep HF.out.1 hs58 (fun k hk h => h hk)) (Chg.of_below (S := fun k => w8.heap.size ≤ k) hb9) (fun k hk h => ?_)
            have h1 := HLS.out k hk
            have h2 := hs58.size
            omega
          · have h1 := HLS.out k hk
            have h2 := hs58.size
            have h3 := hb9.size
            omega)
         have HSZ : Hid (w.heap.size ≤ w8.heap.size ∧ w8.heap.size ≤ w9.heap.size) := Lib.hid ⟨by have h1 := HBB.out.1; have h2 := HF.out.2.1.size; have h3 := HB7.out.size; have h4 := HST.out.2.size; exact Nat.le_trans h2 (Nat.le_trans h3 h4), hb9.size⟩
         have HKN : Hid (ks.length ≤ 268435457) := Lib.hid (by have := HLN.out; have := HZ9.out; omega)
         clear hb9 ho9
         go_wp2
         go_loopw [57] (fun vn wr => ∃ (j : Nat) (l' : List Git), vn = .int .i64 j ∧ j ≤ ks.length ∧ WalkAt wr (fun k => (k < w.heap.size ∧ KOf B F1 k) ∨ w9.heap.size ≤ k) g (.func (.func f) #[] #[c1, c2]) easy l' ∧ Chg (fun k => (k < w.heap.size ∧ KOf B F1 k) ∨ w9.heap.size ≤ k) w9 wr ∧ linksW easy (l.modify i fun y => ⟨y.id, o9.kd⟩) (ks.map lkG) = linksW easy l' ((ks.drop j).map lkG) ∧ l'.length ≤ l.length + j) (fun vn _ => ks.length - (intOf vn).toNat)
         case atStart => exact ⟨0, _, rfl, by omega, HW9.out, Chg.refl _ _, rfl, by simp⟩
         case round =>
          obtain ⟨j, l', rfl, hj, hw', hcr, hlk', hln'⟩ := hrel
          have HWR := Lib.hid hw'
          have HCR := Lib.hid hcr
          have HLR := Lib.hid hlk'
          have HNR := Lib.hid hln'
          clear hw' hcr hlk' hln'
          by_cases hlt : j < ks.length
          · have d1 : decide ((j : Int) < (ks.length : Int)) = true := decide_eq_true (by omega)
            have d1' : decide (j < ks.length) = true := decide_eq_true hlt
            have hor := HO9.out.chg HCR.out (fun k hk h => by
             have h1 := HO9.out.lt k hk
             have h2 := HSZ.out
             rcases h with h | h
             · have := h.1; omega
             · omega)
            obtain ⟨kb, ko, rfl, _, hkl, hkc⟩ := OwnS.flat (g := lkV) (fun _ => rfl) (by decide) hor (List.getElem?_eq_getElem hlt)
            generalize hyy : ks[j] = y at *
            have HY : Hid (ks[j]? = some y) := Lib.hid (by rw [List.getElem?_eq_getElem hlt, hyy])
            have f0 : wr.cell? ⟨kb, ko + j * 2, none⟩ = some (.string y.id) := hkc 0 (by decide)
            have f1 : wr.cell? ⟨kb, ko + j * 2 + 1, none⟩ = some (.int .i64 y.k) := hkc 1 (by decide)
            have hle : ¬ (ks.length : Int) ≤ j := by omega
            have hn0 : (0 : Int) ≤ j := by omega
            have hnl : (j : Int) < ks.length := by omega
            have hw1 : IntKind.i64.wrap ((j : Int) + 1) = (j : Int) + 1 := IntWalk.i64_in _ (by have := HKN.out; omega)
            have HDR : Hid ((ks.drop j).map lkG = lkG y :: (ks.drop (j + 1)).map lkG) := Lib.hid (by rw [List.drop_eq_getElem_cons hlt, hyy]; rfl)
            have HWA : Hid (WalkAt (wr.alloc (.cells #[.string y.id, .int .i64 y.k] 73)) (fun k => (k < w.heap.size ∧ KOf B F1 k) ∨ w9.heap.size ≤ k) g (.func (.func f) #[] #[c1, c2]) easy l') := Lib.hid (HWR.out.keep (Chg.of_below (S := fun k => wr.heap.size ≤ k) ((Below.refl _ _).alloc (Nat.le_refl _) _)) (fun k _ h1 h2 => by omega) (fun k hk _ => hk))
            have HADD := Lib.hid (add_any _ g _ easy l' (lkG y) _ HWA.out (fun k hk => .inr (by have := HCR.out.size; simp at hk; omega)) (by have := HNR.out; have := HN.out.2.1; have := HKN.out; omega) (by
             have h1 := HLE.out y (List.mem_of_getElem? HY.out)
             have h2 := HZ9.out
             rw [Lib.size_eq] at h1
             show y.id.data.toList.length ≤ _
             omega))
            have hbk : bk (lkG y).id = y.id := bk_of y.id
            rw [hbk] at HADD
            have hal0 := HWA.out
            obtain ⟨_, _, _, _, _, hcea, _⟩ := hal0
            have HGB2 := Lib.hid hcea.blk
            clear hor hkl hkc hyy hcea hbk
            have z0 : (wr.alloc (.cells #[.string y.id, .int .i64 y.k] 73)).cell? ⟨wr.heap.size, 0, none⟩ = some (.string y.id) := by rw [World.cell?_alloc_at _ _ _ _ (by simp)]; rfl
            have z1 : (wr.alloc (.cells #[.string y.id, .int .i64 y.k] 73)).cell? ⟨wr.heap.size, 1, none⟩ = some (.int .i64 y.k) := by rw [World.cell?_alloc_at _ _ _ _ (by simp)]; rfl
            have HWS : Hid (wr.heap.size ≤ (wr.alloc (.cells #[.string y.id, .int .i64 y.k] 73)).heap.size ∧ Below wr.heap.size wr (wr.alloc (.cells #[.string y.id, .int .i64 y.k] 73))) := Lib.hid ⟨by simp, (Below.refl _ _).alloc (Nat.le_refl _) _⟩
            go_wp2_with fail
            refine HADD.out.mono ?_
            rintro e w11 ⟨rfl, hwa, hca⟩
            have HWB := Lib.hid hwa
            have HCB : Hid (Chg (fun k => (k < w.heap.size ∧ KOf B F1 k) ∨ w9.heap.size ≤ k) w9 w11) := Lib.hid ((HCR.out.trans (Chg.of_below (S := fun _ => False) HWS.out.2) (fun _ _ h => h.elim)).trans hca (fun _ _ h => h))
            have HLEN : Hid ((addG l' (lkG y)).1.length ≤ l.length + (j + 1)) := Lib.hid (by have := addG_le l' (lkG y); have := HNR.out; omega)
            obtain ⟨_, _, _, _, _, hce11, _⟩ := hwa
            have k3 : w11.cell? ⟨g, 3, none⟩ = some (.bool easy) := hce11.cell 3 (by decide)
            clear hca hce11 f0 f1 z0 z1
            generalize hr2 : (addG l' (lkG y)).2 = rr at *
            have HR2 := Lib.hid hr2
            clear hr2
            cases rr with
            | true =>
             have HNX : Hid (linksW easy (l.modify i fun y => ⟨y.id, o9.kd⟩) (ks.map lkG) = linksW easy (addG l' (lkG y)).1 ((ks.drop (j + 1)).map lkG)) := Lib.hid (by rw [HLR.out, HDR.out]; show (if (addG l' (lkG y)).2 = false ∧ easy = false then _ else _) = _; rw [if_neg (by rw [HR2.out]; simp)])
             go_wp2
             go_roundw
             case rel => exact ⟨j + 1, _, rfl, hlt, HWB.out, HCB.out, HNX.out, HLEN.out⟩
             case measure => simp [intOf]; omega
            | false =>
             cases easy with
             | true =>
              have HNX : Hid (linksW true (l.modify i fun y => ⟨y.id, o9.kd⟩) (ks.map lkG) = linksW true (addG l' (lkG y)).1 ((ks.drop (j + 1)).map lkG)) := Lib.hid (by rw [HLR.out, HDR.out]; show (if (addG l' (lkG y)).2 = false ∧ true = false then _ else _) = _; rw [if_neg (by simp)])
              go_wp2
              go_roundw
              case rel => exact ⟨j + 1, _, rfl, hlt, HWB.out, HCB.out, HNX.out, HLEN.out⟩
              case measure => simp [intOf]; omega
             | false =>
              have HNX : Hid (linksW false (l.modify i fun y => ⟨y.id, o9.kd⟩) (ks.map lkG) = ((addG l' (lkG y)).1, false)) := Lib.hid (by rw [HLR.out, HDR.out]; show (if (addG l' (lkG y)).2 = false ∧ false = false then _ else _) = _; rw [if_pos ⟨HR2.out, rfl⟩])
              go_wp2
              go_ret
              rw [HR.out, HNX.out]
              refine ⟨rfl, F1, HG.out.keep HC9.out.2.1 HCB.out (fun k hk h => ?_), HF.out.2.2, HC9.out.1.trans HCB.out (fun k hk h => ?_), HWB.out.keep (Chg.refl (fun _ => False) _) (fun _ _ _ h => h) (fun k hk _ => ?_)⟩
              · have h1 := HC9.out.2.2 k hk
                rcases h with h | h
                · exact h.2.2 hk
                · omega
              · rcases h with h | h
                · exact HKF.out k h
                · have h1 := HSZ.out; omega
              · rcases hk with h | h
                · exact h.2
                · exact ⟨by have h1 := HSZ.out; have h2 := HN.out.2.2; omega, fun h2 => by have := HC9.out.2.2 k h2; omega⟩
          · have d1 : decide ((j : Int) < (ks.length : Int)) = false := decide_eq_false (by omega)
            have d1' : decide (j < ks.length) = false := decide_eq_false hlt
            have HNX : Hid (linksW easy (l.modify i fun y => ⟨y.id, o9.kd⟩) (ks.map lkG) = (l', true)) := Lib.hid (by rw [HLR.out, List.drop_eq_nil_of_le (by omega)]; rfl)
            go_wp2
            go_ret
            rw [HR.out, HNX.out]
            refine ⟨rfl, F1, HG.out.keep HC9.out.2.1 HCR.out (fun k hk h => ?_), HF.out.2.2, HC9.out.1.trans HCR.out (fun k hk h => ?_), HWR.out.keep (Chg.refl (fun _ => False) _) (fun _ _ _ h => h) (fun k hk _ => ?_)⟩
            · have h1 := HC9.out.2.2 k hk
              rcases h with h | h
              · exact h.2.2 hk
              · omega
            · rcases h with h | h
              · exact HKF.out k h
              · have h1 := HSZ.out; omega
            · rcases hk with h | h
              · exact h.2
              · exact ⟨by have h1 := HSZ.out; have h2 := HN.out.2.2; omega, fun h2 => by have := HC9.out.2.2 k h2; omega⟩
theorem look_any {f : FuncId} {c1 c2 : Value} {G : Gid → Option Kn} {St : (Nat → Prop) → List Gid → World → Prop} (hg : Getter f c1 c2 G St) (F : Nat → Prop) (qs : List Gid) (w : World) (B g i : Nat) (easy : Bool) (l : List Git) (x : Git)
 (hS : St F qs w) (hE : EnvO w) (ht1 : 1 < B) (ht2 : 2 < B) (h1 : ¬ F 1) (h2 : ¬ F 2) (hB : B ≤ w.heap.size)
 (hW : WalkAt w (KOf B F) g (fnV f c1 c2) easy l) (hx : l[i]? = some x) (hl : l.length ≤ 536870912) (hz : ∀ o, G x.id = some o → o.b.length ≤ 268435456) :
 Calls Tryz.prog 36 #[.pointer (some ⟨g, 0, none⟩), .int .i64 (i : Int)] w (LookPost St F qs B g (fnV f c1 c2) easy x.id (lookW easy (fun d => (G d).map gobK) l i) w) :=
 lookN_any (hg.toN (qs.length + 1)) F qs w B g i easy l x (Nat.lt_succ_self _) hS hE ht1 ht2 h1 h2 hB hW hx hl hz
end Go.Proofs.YtihanglnjghcfaaGreatDoor
namespace Go.Proofs.YtihanglnjghcfaaGreatDoor
open Go.RowKit Go.Maps
set_option linter.unusedVariables false
set_option linter.unusedSimpArgs false

/-- The roots laid into the list, the program's way. -/
def rootsP (l : List Git) (rs : List Gid) : List Git := rs.foldl (fun l r => (addG l ⟨r, 0⟩).1) l
theorem rootsP_snoc (l : List Git) (rs : List Gid) (r : Gid) : rootsP l (rs ++ [r]) = (addG (rootsP l rs) ⟨r, 0⟩).1 := by unfold rootsP; rw [List.foldl_append]; rfl
theorem rootsP_len : ∀ (rs : List Gid) (l : List Git), (rootsP l rs).length ≤ l.length + rs.length
 | [], l => by simp [rootsP]
 | r :: rs, l => by
  have h1 := rootsP_len rs (addG l ⟨r, 0⟩).1
  have h2 := addG_le l ⟨r, 0⟩
  show (rootsP (addG l ⟨r, 0⟩).1 rs).length ≤ _
  simp only [List.length_cons]
  omega
theorem StrsAt.chg {S : Nat → Prop} {w w' : World} {A : Option Addr} {P : List ByteArray} (h : StrsAt w A P) (hc : Chg S w w') (hS : ∀ k, k < w.heap.size → ¬ S k) : StrsAt w' A P := fun hl => by
 obtain ⟨g, o, h1, h2, h3⟩ := h hl
 exact ⟨g, o, h1, Nat.lt_of_lt_of_le h2 hc.size, fun i s hi => (World.cell?_of_block (hc.block g h2 (hS g h2))).trans (h3 i s hi)⟩
set_option maxRecDepth 100000 in
set_option maxHeartbeats 2000000 in
theorem begin_any (f : FuncId) (c1 c2 : Value) (A : Option Addr) (n c : Nat) (rs : List Gid) (w : World) (hR : StrsAt w A (rs.map bk)) (hn : rs.length = n) (hl : n ≤ 268435456) (hs : ∀ r ∈ rs, r.length ≤ 1099511627776) :
 Calls Tryz.prog 35 #[fnV f c1 c2, .slice A n c] w fun e w' => Below w.heap.size w w' ∧ ∃ g, e = .returned (.pointer (some ⟨g, 0, none⟩)) ∧ WalkAt w' (fun k => w.heap.size ≤ k) g (fnV f c1 c2) false (rootsP [] rs) := by
 have HR := Lib.hid hR
 have HS := Lib.hid hs
 have HL := Lib.hid hl
 have HN := Lib.hid hn
 clear hR hs hl hn
 have hmm := @run_makeMap Tryz.prog
 unfold fnV
 go_enter Tryz.func35, Tryz.ntmps35
 go_upto_region 2 with (fail)
 have hW0 : WalkAt ((w.alloc (.map #[] 0)).alloc (.cells #[.func (.func f) #[] #[c1, c2], .slice none 0 0, .map (some w.heap.size), .bool false] 84)) (fun k => w.heap.size ≤ k) (w.heap.size + 1) (.func (.func f) #[] #[c1, c2]) false [] := by
  have hsz : (w.alloc (.map #[] 0)).heap.size = w.heap.size + 1 := by simp
  have hm := MapI.new w
  have hml := hm.lt
  have hm2 := hm.same (w' := (w.alloc (.map #[] 0)).alloc (.cells #[.func (.func f) #[] #[c1, c2], .slice none 0 0, .map (some w.heap.size), .bool false] 84)) (heap_alloc_old _ _ hml)
  have hc := Cel.new (w.alloc (.map #[] 0)) 84 #[.func (.func f) #[] #[c1, c2], .slice none 0 0, .map (some w.heap.size), .bool false] (walF (.func (.func f) #[] #[c1, c2]) (.slice none 0 0) (.map (some w.heap.size)) (.bool false)) (fun i hi => by
   have : i = 0 ∨ i = 1 ∨ i = 2 ∨ i = 3 := by simp at hi; omega
   rcases this with rfl | rfl | rfl | rfl <;> rfl)
  rw [hsz] at hc
  exact ⟨Nat.le_succ _, none, 0, w.heap.size, 0, hc, OwnS.nil _ _ _ _, fun k hk => by simp [Value.ownBlock] at hk, hm2, Nat.le_refl _, Nat.le_refl _⟩
 have hB0 : Below w.heap.size w ((w.alloc (.map #[] 0)).alloc (.cells #[.func (.func f) #[] #[c1, c2], .slice none 0 0, .map (some w.heap.size), .bool false] 84)) := ((Below.refl _ _).alloc (Nat.le_refl _) _).alloc (by simp) _
 generalize (w.alloc (.map #[] 0)).alloc (.cells #[.func (.func f) #[] #[c1, c2], .slice none 0 0, .map (some w.heap.size), .bool false] 84) = w1 at *
 generalize hg : w.heap.size + 1 = g at *
 have HW0 := Lib.hid hW0
 have HB0 := Lib.hid hB0
 clear hW0 hB0 hmm hg
 go_wp2
 go_loopw [14] (fun vn wr => ∃ j : Nat, vn = .int .i64 j ∧ j ≤ n ∧ WalkAt wr (fun k => w.heap.size ≤ k) g (.func (.func f) #[] #[c1, c2]) false (rootsP [] (rs.take j)) ∧ Below w.heap.size w wr) (fun vn _ => n - (intOf vn).toNat)
 case atStart => exact ⟨0, rfl, by omega, HW0.out, HB0.out⟩
 case round =>
  obtain ⟨j, rfl, hj, hw, hb⟩ := hrel
  have HW := Lib.hid hw
  have HB := Lib.hid hb
  clear hw hb
  by_cases hlt : j < n
  · have d1 : decide ((j : Int) < (n : Int)) = true := decide_eq_true (by omega)
    have d1' : decide (j < n) = true := decide_eq_true hlt
    have hjr : j < rs.length := by rw [HN.out]; exact hlt
    obtain ⟨b, o, hA, hbl, hcl⟩ := HR.out (by rw [List.length_map]; omega)
    subst hA
    have hc0 := hcl j (bk rs[j]) (by rw [List.getElem?_map, List.getElem?_eq_getElem hjr]; rfl)
    have hrs := HS.out rs[j] (List.getElem_mem hjr)
    have HTK : Hid (rootsP [] (rs.take (j + 1)) = (addG (rootsP [] (rs.take j)) ⟨rs[j], 0⟩).1) := Lib.hid (by rw [List.take_add_one, List.getElem?_eq_getElem hjr]; exact rootsP_snoc _ _ _)
    have hln := rootsP_len (rs.take j) []
    have HADD := Lib.hid (add_any _ g _ false (rootsP [] (rs.take j)) ⟨rs[j], 0⟩ wr HW.out (fun k hk => by have := HB.out.size; omega) (by have h1 := HL.out; simp only [List.length_take, List.length_nil] at hln; omega) hrs)
    dsimp only at HADD
    generalize rs[j] = r at *
    have f0 := (HB.out.cell (p := ⟨b, o + j, none⟩) hbl).trans hc0
    have hle : ¬ (n : Int) ≤ j := by omega
    have hn0 : (0 : Int) ≤ j := by omega
    have hnl : (j : Int) < n := by omega
    have hw1 : IntKind.i64.wrap ((j : Int) + 1) = (j : Int) + 1 := IntWalk.i64_in _ (by have := HL.out; omega)
    clear hcl hc0 hrs hln hbl hjr
    go_wp2_with fail
    refine HADD.out.mono ?_
    rintro e w2 ⟨rfl, hw2, hc2⟩
    have HW2 := Lib.hid hw2
    have HB2 := Lib.hid (HB.out.trans (hc2.below HB.out.size (fun k hk h => by omega)))
    clear hw2 hc2
    go_wp2
    go_roundw
    case rel => exact ⟨j + 1, rfl, hlt, by rw [HTK.out]; exact HW2.out, HB2.out⟩
    case measure => simp [intOf]; omega
  · have d1 : decide ((j : Int) < (n : Int)) = false := decide_eq_false (by omega)
    have d1' : decide (j < n) = false := decide_eq_false hlt
    have HTK : Hid (rs.take j = rs) := Lib.hid (List.take_of_length_le (by have := HN.out; omega))
    go_wp2
    go_ret
    exact ⟨HB.out, g, rfl, by have := HW.out; rwa [HTK.out] at this⟩
end Go.Proofs.YtihanglnjghcfaaGreatDoor
namespace Go.Proofs.YtihanglnjghcfaaGreatDoor
open Go.RowKit Go.Maps
set_option linter.unusedVariables false
set_option linter.unusedSimpArgs false

/-- All IDs that a walk may come to. -/
structure Univ (G : Gid → Option Kn) (U : List Gid) : Prop where
 num : U.length ≤ 268435456
 sz : ∀ d o, G d = some o → o.b.length ≤ 268435456
 lk : ∀ d o ks, G d = some o → lkOf o.kd o.b = some ks → ∀ k ∈ ks, k.id.data.toList ∈ U
def gobG (G : Gid → Option Kn) (d : Gid) : Option Gob := (G d).map gobK
theorem addG_ids {l : List Git} {k : Glk} {x : Git} (h : x ∈ (addG l k).1) : x.id ∈ l.map (·.id) ∨ x.id = k.id := by
 have hm : x.id ∈ (addG l k).1.map (·.id) := List.mem_map_of_mem h
 unfold addG at hm
 cases hat : atG l k.id with
 | none =>
  rw [hat] at hm
  simp only [List.map_append, List.mem_append, List.map_cons, List.map_nil, List.mem_singleton] at hm
  exact hm
 | some i =>
  rw [hat] at hm
  dsimp only at hm
  split at hm
  · rw [modify_ids] at hm; exact .inl hm
  · exact .inl hm
theorem linksW_ids (easy : Bool) : ∀ (ks : List Glk) (l : List Git) (x : Git), x ∈ (linksW easy l ks).1 → x.id ∈ l.map (·.id) ∨ ∃ k ∈ ks, x.id = k.id
 | [], l, x, h => .inl (List.mem_map_of_mem h)
 | k :: ks, l, x, h => by
  have key : ∀ y, y ∈ (addG l k).1 → y.id ∈ l.map (·.id) ∨ ∃ q ∈ k :: ks, y.id = q.id := fun y hy => (addG_ids hy).imp_right fun h => ⟨k, by simp, h⟩
  unfold linksW at h
  split at h
  · exact key x h
  · rcases linksW_ids easy ks _ x h with h | ⟨q, hq, h⟩
    · obtain ⟨y, hy, he⟩ := List.mem_map.1 h
      have h2 := key y hy
      rw [he] at h2
      exact h2
    · exact .inr ⟨q, List.mem_cons_of_mem _ hq, h⟩
/-- All of the list are such IDs. -/
def SubU (U : List Gid) (l : List Git) : Prop := ∀ x ∈ l, x.id ∈ U
theorem lookW_sub {G : Gid → Option Kn} {U : List Gid} (hu : Univ G U) (easy : Bool) {l : List Git} (i : Nat) (h : SubU U l) : SubU U (lookW easy (gobG G) l i).1 := by
 have h0 : ∀ {α : Type} (o : Option α), o = none ∨ ∃ x, o = some x := fun o => by cases o <;> simp
 unfold lookW
 rcases h0 (l[i]?) with hx | ⟨x, hx⟩
 · simp only [hx]; exact h
 · rcases h0 (G x.id) with hg | ⟨o, hg⟩
   · simp only [hx, gobG, hg, Option.map_none]; exact h
   · rcases h0 (lkOf o.kd o.b) with hk | ⟨ks, hk⟩
     · simp only [hx, gobG, hg, Option.map_some]; unfold gobK; simp only [hk, Option.map_none]; exact h
     · have e : gobK o = ⟨o.kd, o.id, some (ks.map lkG), paOf o.kd o.b, tgOf o.kd o.b⟩ := by unfold gobK; rw [hk]; rfl
       simp only [hx, gobG, hg, Option.map_some]
       rw [e]
       dsimp only
       split
       · exact h
       · intro y hy
         rcases linksW_ids easy _ _ y hy with h1 | ⟨k, hk1, h1⟩
         · rw [modify_ids] at h1
           obtain ⟨z, hz, he⟩ := List.mem_map.1 h1
           rw [← he]; exact h z hz
         · obtain ⟨q, hq, rfl⟩ := List.mem_map.1 hk1
           rw [h1]
           exact hu.lk x.id o ks hg hk q hq
theorem linksW_one (easy : Bool) : ∀ (ks : List Glk) (l : List Git), OneG l → OneG (linksW easy l ks).1
 | [], l, h => h
 | k :: ks, l, h => by
  unfold linksW
  split
  · exact addG_one h k
  · exact linksW_one easy ks _ (addG_one h k)
theorem lookW_one (easy : Bool) (G : Gid → Option Gob) {l : List Git} (i : Nat) (h : OneG l) : OneG (lookW easy G l i).1 := by
 unfold lookW
 split
 · exact h
 · split
   · exact h
   · split
     · exact h
     · split
       · exact h
       · refine linksW_one easy _ _ ?_
         unfold OneG at *
         rw [modify_ids]; exact h
theorem linksW_pre (easy : Bool) : ∀ (ks : List Glk) (l : List Git), ∃ t, (linksW easy l ks).1.map (·.id) = l.map (·.id) ++ t
 | [], l => ⟨[], by simp [linksW]⟩
 | k :: ks, l => by
  obtain ⟨t, ht⟩ := addG_pre l k
  unfold linksW
  split
  · exact ⟨t, ht⟩
  · obtain ⟨u, hu⟩ := linksW_pre easy ks (addG l k).1
    exact ⟨t ++ u, by rw [hu, ht, List.append_assoc]⟩
theorem lookW_pre (easy : Bool) (G : Gid → Option Gob) (l : List Git) (i : Nat) : ∃ t, (lookW easy G l i).1.map (·.id) = l.map (·.id) ++ t := by
 unfold lookW
 split
 · exact ⟨[], by simp⟩
 · split
   · exact ⟨[], by simp⟩
   · split
     · exact ⟨[], by simp⟩
     · split
       · exact ⟨[], by simp⟩
       · obtain ⟨t, ht⟩ := linksW_pre easy _ (l.modify i _)
         exact ⟨t, by rw [ht, modify_ids]⟩
theorem sub_len {U : List Gid} {l : List Git} (h1 : OneG l) (h2 : SubU U l) : l.length ≤ U.length := by
 have := nodup_sub_len (l.map (·.id)) U (show (l.map (·.id)).Nodup from h1) fun x hx => by
  obtain ⟨y, hy, rfl⟩ := List.mem_map.1 hx
  exact h2 y hy
 simpa using this
theorem rootsP_one : ∀ (rs : List Gid) (l : List Git), OneG l → OneG (rootsP l rs)
 | [], l, h => h
 | r :: rs, l, h => rootsP_one rs _ (addG_one h ⟨r, 0⟩)
theorem rootsP_sub {U : List Gid} : ∀ (rs : List Gid) (l : List Git), SubU U l → (∀ r ∈ rs, r ∈ U) → SubU U (rootsP l rs)
 | [], l, h, _ => h
 | r :: rs, l, h, hr => rootsP_sub rs _ (fun x hx => by
  rcases addG_ids hx with h1 | h1
  · obtain ⟨z, hz, he⟩ := List.mem_map.1 h1
    rw [← he]; exact h z hz
  · rw [h1]; exact hr r (by simp)) fun q hq => hr q (List.mem_cons_of_mem _ hq)
/-- The closure, the program's way. -/
def closR (G : Gid → Option Kn) (U : List Gid) (rs : List Gid) (most : Int) : Except Int (List Git) := goG (gobG G) most (U.length + 1) 0 (rootsP [] rs)
theorem goG_end {G : Gid → Option Gob} {most : Int} {n i : Nat} {l : List Git} (h : l.length ≤ i) : goG G most n i l = .ok l := by
 cases n with
 | zero => rfl
 | succ n => unfold goG; rw [if_neg (by omega)]
theorem goG_big {G : Gid → Option Gob} {most : Int} {n i : Nat} {l : List Git} (h : i < l.length) (hb : max most 0 ≤ (i : Int)) : goG G most (n + 1) i l = .error 5 := by
 unfold goG; rw [if_pos h, if_pos hb]
theorem goG_step {G : Gid → Option Gob} {most : Int} {n i : Nat} {l : List Git} (h : i < l.length) (hb : ¬ max most 0 ≤ (i : Int)) :
 goG G most (n + 1) i l = if (lookW false G l i).2 = 0 then goG G most n (i + 1) (lookW false G l i).1 else .error (lookW false G l i).2 := by
 conv => lhs; unfold goG
 rw [if_pos h, if_neg (by exact hb), lookW_is]
 by_cases h0 : (lookW false G l i).2 = 0
 · rw [if_pos h0, if_pos h0]
 · rw [if_neg h0, if_neg h0]
end Go.Proofs.YtihanglnjghcfaaGreatDoor
