/- object.commit walked. -/
import Derived.Test.YtihanglnjghcfaaGreatDoorGLn5
namespace Go.Proofs.YtihanglnjghcfaaGreatDoor
open Go.RowKit
set_option linter.unusedVariables false
set_option linter.unusedSimpArgs false

def cmF (t : ByteArray) (vP : Value) (a c m : ByteArray) (j : Nat) : Value := if j = 0 then .string t else if j = 1 then vP else if j = 2 then .string a else if j = 3 then .string c else .string m
def okF3 (b0 b1 b2 : Bool) (j : Nat) : Value := if j = 0 then .bool b0 else if j = 1 then .bool b1 else .bool b2
/-- What the reading of a commit holds in memory: the text, the commit so far, which lines came. -/
structure CmSt (w0 w : World) (h g1 g2 : Nat) (s t : ByteArray) (vP : Value) (a c m : ByteArray) (b0 b1 b2 : Bool) : Prop where
 low : Below h w0 w
 lt1 : h < g1
 lt2 : g1 < g2
 cs : Cel w h 9 1 (fun _ => .string s)
 cc : Cel w g1 103 5 (cmF t vP a c m)
 co : Cel w g2 167 3 (okF3 b0 b1 b2)
theorem CmSt.chg {w0 w w' : World} {h g1 g2 : Nat} {s s' t : ByteArray} {vP : Value} {a c m : ByteArray} {b0 b1 b2 : Bool} (k : CmSt w0 w h g1 g2 s t vP a c m b0 b1 b2) (hc : Chg (fun k => k = h) w w') (hs : Cel w' h 9 1 (fun _ => .string s')) : CmSt w0 w' h g1 g2 s' t vP a c m b0 b1 b2 :=
 ⟨k.low.trans (hc.below (Nat.le_of_lt k.cs.blk) (fun i hi e => by omega)), k.lt1, k.lt2, hs, k.cc.chg hc (by have := k.lt1; omega), k.co.chg hc (by have := k.lt1; have := k.lt2; omega)⟩
theorem CmSt.below {w0 w w' : World} {h g1 g2 : Nat} {s t : ByteArray} {vP : Value} {a c m : ByteArray} {b0 b1 b2 : Bool} (k : CmSt w0 w h g1 g2 s t vP a c m b0 b1 b2) (hb : Below w.heap.size w w') : CmSt w0 w' h g1 g2 s t vP a c m b0 b1 b2 :=
 ⟨k.low.trans (hb.mono (Nat.le_of_lt k.cs.blk)), k.lt1, k.lt2, k.cs.below hb k.cs.blk, k.cc.below hb k.cc.blk, k.co.below hb k.co.blk⟩
theorem CmSt.chgHi {w0 w w' : World} {h g1 g2 : Nat} {s t : ByteArray} {vP : Value} {a c m : ByteArray} {b0 b1 b2 : Bool} (k : CmSt w0 w h g1 g2 s t vP a c m b0 b1 b2) (hc : Chg (fun k => g2 + 1 ≤ k) w w') : CmSt w0 w' h g1 g2 s t vP a c m b0 b1 b2 := by
 have h1 := k.lt1
 have h2 := k.lt2
 exact ⟨k.low.trans (hc.below (Nat.le_of_lt k.cs.blk) (fun i hi e => by omega)), k.lt1, k.lt2, k.cs.chg hc (by omega), k.cc.chg hc (by omega), k.co.chg hc (by omega)⟩
theorem CmSt.set {w0 w : World} {h g1 g2 : Nat} {s t : ByteArray} {vP : Value} {a c m : ByteArray} {b0 b1 b2 : Bool} (k : CmSt w0 w h g1 g2 s t vP a c m b0 b1 b2) {i : Nat} {v : Value} {t' : ByteArray} {vP' : Value} {a' c' m' : ByteArray}
 (hf : ∀ j, j < 5 → (if j = i then v else cmF t vP a c m j) = cmF t' vP' a' c' m' j) : CmSt w0 (w.setCell ⟨g1, i, none⟩ v) h g1 g2 s t' vP' a' c' m' b0 b1 b2 :=
 ⟨k.low.setCell (p := ⟨g1, i, none⟩) (Nat.le_of_lt k.lt1) v, k.lt1, k.lt2, k.cs.setFar (Nat.ne_of_lt k.lt1) v, (k.cc.set i v).congr hf, k.co.setFar (Nat.ne_of_gt k.lt2) v⟩
theorem CmSt.setOk {w0 w : World} {h g1 g2 : Nat} {s t : ByteArray} {vP : Value} {a c m : ByteArray} {b0 b1 b2 : Bool} (k : CmSt w0 w h g1 g2 s t vP a c m b0 b1 b2) {i : Nat} {b : Bool} {d0 d1 d2 : Bool}
 (hf : ∀ j, j < 3 → (if j = i then .bool b else okF3 b0 b1 b2 j) = okF3 d0 d1 d2 j) : CmSt w0 (w.setCell ⟨g2, i, none⟩ (.bool b)) h g1 g2 s t vP a c m d0 d1 d2 :=
 ⟨k.low.setCell (p := ⟨g2, i, none⟩) (by have := k.lt1; have := k.lt2; show h ≤ g2; omega) _, k.lt1, k.lt2, k.cs.setFar (by have := k.lt1; have := k.lt2; show h ≠ g2; omega) _, k.cc.setFar (Nat.ne_of_lt k.lt2) _, (k.co.set i _).congr hf⟩
theorem CmSt.new (w : World) (s : ByteArray) : CmSt w (((w.alloc (.cells #[.string s] 9)).alloc (.cells #[.string ⟨#[]⟩, .slice none 0 0, .string ⟨#[]⟩, .string ⟨#[]⟩, .string ⟨#[]⟩] 103)).alloc (.cells #[.bool false, .bool false, .bool false] 167)) w.heap.size (w.heap.size + 1) (w.heap.size + 1 + 1) s ⟨#[]⟩ (.slice none 0 0) ⟨#[]⟩ ⟨#[]⟩ ⟨#[]⟩ false false false := by
 refine ⟨(((Below.refl _ _).alloc (Nat.le_refl _) _).alloc (by simp) _).alloc (by simp; omega) _, by omega, by omega, ?_, ?_, ?_⟩
 · refine ((Cel.new w 9 #[.string s] (fun _ => .string s) (fun i hi => ?_)).alloc _).alloc _
   have : i < 1 := hi
   obtain rfl : i = 0 := by omega
   rfl
 · have h := (Cel.new (w.alloc (.cells #[.string s] 9)) 103 #[.string ⟨#[]⟩, .slice none 0 0, .string ⟨#[]⟩, .string ⟨#[]⟩, .string ⟨#[]⟩] (cmF ⟨#[]⟩ (.slice none 0 0) ⟨#[]⟩ ⟨#[]⟩ ⟨#[]⟩) (fun i hi => by
    have : i < 5 := hi
    rcases i with _ | _ | _ | _ | _ | i <;> first | rfl | omega)).alloc (.cells #[.bool false, .bool false, .bool false] 167)
   simpa using h
 · have h := Cel.new ((w.alloc (.cells #[.string s] 9)).alloc (.cells #[.string ⟨#[]⟩, .slice none 0 0, .string ⟨#[]⟩, .string ⟨#[]⟩, .string ⟨#[]⟩] 103)) 167 #[.bool false, .bool false, .bool false] (okF3 false false false) (fun i hi => by
    have : i < 3 := hi
    rcases i with _ | _ | _ | i <;> first | rfl | omega)
   simpa using h
theorem eq3 (b0 b1 b2 : Bool) (w : World) : (Op.equalIn 10000 167 (.agg #[.bool b0, .bool b1, .bool b2]) (.agg #[.bool true, .bool true, .bool true])).run Tryz.prog w = .ok (b0 && (b1 && b2)) w := by
 cases b0 <;> cases b1 <;> cases b2 <;> kernel_rfl
/-- How long the text at a place is. -/
def strAt (w : World) (b : Nat) : Nat := match w.cell? ⟨b, 0, none⟩ with | some (.string s) => s.size | _ => 0
theorem strAt_of {w : World} {b : Nat} {s : ByteArray} (h : Cel w b 9 1 (fun _ => .string s)) : strAt w b = s.size := by
 unfold strAt; rw [h.cell 0 (by decide)]
/-- What reading a commit answers. -/
def CommitPost (s : ByteArray) (w : World) (e : Ending) (w' : World) : Prop :=
 Below w.heap.size w w' ∧ ((commitF s.data.toList = none ∧ e = .returned (.tuple #[.nilIface, .bool false])) ∨
  ∃ r A, commitF s.data.toList = some r ∧ e = .returned (.tuple #[.iface 103 (.agg #[.string (bk r.t), .slice A r.P.length r.P.length, .string (bk r.a), .string (bk r.c), .string (bk r.m)]), .bool true]) ∧ OwnS w' w.heap.size 9 1 (.slice A r.P.length r.P.length) r.P.length (strVs r.P))
set_option maxRecDepth 100000 in
set_option maxHeartbeats 4000000 in
theorem commit_any (s : ByteArray) (w : World) (hE : EnvO w) (hs : s.size ≤ 8796093022000) : Calls Tryz.prog 85 #[.string s] w (CommitPost s w) := by
 have HE := Lib.hid hE
 have HS := Lib.hid hs
 have hst := CmSt.new w s
 obtain ⟨i0, hi, hz0, hz1, hz2⟩ := info_parts info_str
 clear hE hs
 go_enter Tryz.func85, Tryz.ntmps85
 go_upto_region 3 with (fail)
 generalize ((w.alloc (.cells #[.string s] 9)).alloc (.cells #[.string ⟨#[]⟩, .slice none 0 0, .string ⟨#[]⟩, .string ⟨#[]⟩, .string ⟨#[]⟩] 103)).alloc (.cells #[.bool false, .bool false, .bool false] 167) = w3 at *
 generalize hg2 : w.heap.size + 1 + 1 = g2 at *
 generalize hg1 : w.heap.size + 1 = g1 at *
 generalize hh : w.heap.size = h at *
 have HH := Lib.hid hh
 have HST := Lib.hid hst
 clear hh hg1 hg2 hst
 go_wp2_with fail
 refine (field_any' h s treeN w3 (Nat.le_trans HS.out (by decide)) (by decide) HST.out.cs).mono ?_
 rintro e w4 ⟨x0, b0, s1, rfl, hc4, hs4, hf0⟩
 have HF0 := Lib.hid hf0
 have hst4 := HST.out.chg hc4 hs4
 have hne : g1 ≠ g2 := Nat.ne_of_lt hst4.lt2
 have hne' : g2 ≠ g1 := Ne.symm hne
 have k0 : w4.cell? ⟨g1, 0, none⟩ = some (.string ⟨#[]⟩) := hst4.cc.cell 0 (by decide)
 have f0 : w4.frozen? ⟨g1, 0, none⟩ = false := hst4.cc.frozen 0
 have k1 : w4.cell? ⟨g2, 0, none⟩ = some (.bool false) := hst4.co.cell 0 (by decide)
 have f1 : w4.frozen? ⟨g2, 0, none⟩ = false := hst4.co.frozen 0
 have HST4 := Lib.hid hst4
 clear hc4 hs4 hf0 hst4 HST
 go_wp2
 have HST5 := Lib.hid ((HST4.out.set (i := 0) (v := .string x0) (t' := x0) (vP' := .slice none 0 0) (a' := ⟨#[]⟩) (c' := ⟨#[]⟩) (m' := ⟨#[]⟩) (fun j hj => by unfold cmF; split <;> rfl)).setOk (i := 0) (b := b0) (d0 := b0) (d1 := false) (d2 := false) (fun j hj => by unfold okF3; split <;> rfl))
 have HS1 : Hid (s1.size ≤ s.size) := Lib.hid HF0.out.size
 clear k0 f0 k1 f1 HST4
 generalize (w4.setCell ⟨g1, 0, none⟩ (.string x0)).setCell ⟨g2, 0, none⟩ (.bool b0) = w5 at *
 go_loopw [6] (fun _ wr => ∃ (s2 : ByteArray) (P : List (List UInt8)) (f : Nat) (v : Value), CmSt w wr h g1 g2 s2 x0 v ⟨#[]⟩ ⟨#[]⟩ ⟨#[]⟩ b0 false false ∧ OwnS wr (g2 + 1) 9 1 v P.length (strVs P) ∧ s2.size < f ∧ s2.size ≤ s1.size ∧ P.length + s2.size ≤ s1.size ∧ parsF (s1.size + 1) s1.data.toList [] = parsF f s2.data.toList P) (fun _ wr => strAt wr h)
 case atStart => exact ⟨s1, [], s1.size + 1, .slice none 0 0, HST5.out, OwnS.nil _ _ _ _, by omega, Nat.le_refl _, by simp, rfl⟩
 case round =>
  clear HST5
  obtain ⟨s2, P, f, v, hst, ho, hf, h21, hPs, hpf⟩ := hrel
  obtain ⟨A, cA, rfl⟩ := ho.shape
  have HMS := Lib.hid (strAt_of hst.cs)
  have HST := Lib.hid hst
  have HO := Lib.hid ho
  have HPF := Lib.hid hpf
  have HN2 : Hid (s2.size < f ∧ s2.size ≤ s1.size ∧ P.length + s2.size ≤ s1.size) := Lib.hid ⟨hf, h21, hPs⟩
  clear hst ho hpf hf h21 hPs
  go_wp2_with fail
  refine (field_any' h s2 parentN wr (by have := HN2.out; have := HS1.out; have := HS.out; omega) (by decide) HST.out.cs).mono ?_
  rintro e w6 ⟨x, b, s3, rfl, hc6, hs6, hf6⟩
  have HF6 := Lib.hid hf6
  have HST6 := Lib.hid (HST.out.chg hc6 hs6)
  have HO6 := Lib.hid (HO.out.chg hc6 (fun k hk e => by have h1 := (HO.out.lt k hk).1; have h2 := HST.out.lt1; have h3 := HST.out.lt2; omega))
  clear hc6 hs6 hf6 HST HO
  cases b
  case true =>
   have hxs := HF6.out.xsize
   have HHX := Lib.hid (fun w => hash_any x w (by have := HN2.out; have := HS1.out; have := HS.out; omega))
   have HPN : Hid (parsF f s2.data.toList P = if hashB (bytesOf x) = false ∨ x.data.toList ∈ P then none else parsF (f - 1) s3.data.toList (P ++ [x.data.toList])) := Lib.hid (by
    obtain ⟨f', rfl⟩ : ∃ f', f = f' + 1 := ⟨f - 1, by have := HN2.out; omega⟩
    rw [parsF, HF6.out.yes]
    show (if hashU x.data.toList = false ∨ _ then none else _) = _
    unfold hashU
    rw [bk_of]; rfl)
   have HX3 : Hid (s3.size < s2.size) := Lib.hid hxs.2
   clear hxs
   cases hhx : hashB (bytesOf x)
   · rw [hhx] at HHX HPN
     have HNO : Hid (commitF s.data.toList = none) := Lib.hid (commitF_pars HF0.out (by rw [HPF.out, HPN.out, if_pos (.inl rfl)]))
     clear hhx
     go_wp2_with (go_at_call 110; refine (HHX.out _).mono ?_; rintro e w7 ⟨rfl, hb7⟩; have HB7 := Lib.hid hb7; clear hb7)
     go_ret2
     exact ⟨by rw [HH.out]; exact (HST6.out.below HB7.out).low, .inl ⟨HNO.out, rfl⟩⟩
   · rw [hhx] at HHX HPN
     clear hhx
     go_wp2_with fail
     refine (HHX.out _).mono ?_
     rintro e w7 ⟨rfl, hb7⟩
     have HST7 := Lib.hid (HST6.out.below hb7)
     have HO7 := Lib.hid (HO6.out.chg (Chg.of_below (S := fun _ => False) hb7) (fun _ _ h => h))
     have k1 : w7.cell? ⟨g1, 1, none⟩ = some (.slice A P.length cA) := HST7.out.cc.cell 1 (by decide)
     have HCT := Lib.hid (contains_any A P.length cA P x.data.toList w7 (g2 + 1) HO7.out (by have := HN2.out; have := HS1.out; have := HS.out; omega))
     rw [bk_of] at HCT
     clear hb7 HST6 HO6
     by_cases hin : x.data.toList ∈ P
     · have HNO : Hid (commitF s.data.toList = none) := Lib.hid (commitF_pars HF0.out (by rw [HPF.out, HPN.out, if_pos (.inr hin)]))
       rw [decide_eq_true hin] at HCT
       clear hin
       go_wp2_with (go_at_call 111; refine HCT.out.mono ?_; rintro e w8 ⟨rfl, rfl⟩)
       go_ret2
       exact ⟨by rw [HH.out]; exact HST7.out.low, .inl ⟨HNO.out, rfl⟩⟩
     · rw [if_neg (by rintro (h | h); exact absurd h (by decide); exact hin h)] at HPN
       rw [decide_eq_false hin] at HCT
       clear hin
       have f1 : w7.frozen? ⟨g1, 1, none⟩ = false := HST7.out.cc.frozen 1
       go_upto_region 8 with (go_at_call 111; refine HCT.out.mono ?_; rintro e w8 ⟨rfl, rfl⟩)
       have hl8 : Below w8.heap.size w8 (w8.alloc (.cells #[.string x] 9)) := (Below.refl _ _).alloc (Nat.le_refl _) _
       have HST8 := Lib.hid (HST7.out.below hl8)
       have HO8 := Lib.hid (HO7.out.alloc (.cells #[.string x] 9))
       have hbs : g2 + 1 ≤ (w8.alloc (.cells #[.string x] 9)).heap.size := HST8.out.co.blk
       have HSRC := Lib.hid (Src.one_new (P := Tryz.prog) (w := w8) (u := .string x) (t := 9) rfl)
       have hbyte : (P.length + 1) * 16 ≤ 140737488355328 := by have := HN2.out; have := HS1.out; have := HS.out; omega
       have hmax : P.length + 1 ≤ maxLen := by unfold maxLen; omega
       have hpl : P.length ≤ 8796093022000 := by have := HN2.out; have := HS1.out; have := HS.out; omega
       clear hl8
       go_wp2_with (at_builtin; go_loud (refine wpList_append_S rfl (.tmp 32) (.tmp 34) 32 32 rfl i0 (.string ⟨#[]⟩) 16 (.slice 9) Tryz.underlying32 Tryz.underlying32 (fun _ h => by cases h) hi hz0 hz1 hz2 rfl rfl rfl HO8.out HSRC.out hmax hbyte hbs ?_; intro A9 c9 w9 ho9 hg9 hw9; have hst9 := HST8.out.chgHi (Chg.of_grown hg9 (fun k hk => (HO8.out.lt k hk).1)); have k9 : w9.cell? ⟨g1, 1, none⟩ = some (.slice A P.length cA) := hst9.cc.cell 1 (by decide); have f9 : w9.frozen? ⟨g1, 1, none⟩ = false := hst9.cc.frozen 1; have HST9 := Lib.hid hst9; clear hst9))
       have HST10 := Lib.hid (HST9.out.set (i := 1) (v := .slice A9 (P.length + 1) c9) (t' := x0) (vP' := .slice A9 (P.length + 1) c9) (a' := ⟨#[]⟩) (c' := ⟨#[]⟩) (m' := ⟨#[]⟩) (fun j hj => by
        rcases j with _ | _ | _ | _ | _ | j <;> first | rfl | omega))
       have HO10 : Hid (OwnS (w9.setCell ⟨g1, 1, none⟩ (.slice A9 (P.length + 1) c9)) (g2 + 1) 9 1 (.slice A9 (P.length + 1) c9) (P ++ [x.data.toList]).length (strVs (P ++ [x.data.toList]))) := Lib.hid (by
        have h := ho9.setLow (a := ⟨g1, 1, none⟩) (by show g1 < g2 + 1; have := HST9.out.lt2; omega) (.slice A9 (P.length + 1) c9)
        rw [List.length_append]
        unfold strVs
        rw [List.map_append, List.map_cons, bk_of]
        exact h)
       refine ⟨⟨s3, P ++ [x.data.toList], f - 1, _, HST10.out, HO10.out, ?_, ?_, ?_, ?_⟩, ?_⟩
       · have := HN2.out; have := HX3.out; omega
       · have := HN2.out; have := HX3.out; omega
       · rw [List.length_append]; have := HN2.out; have := HX3.out; simp only [List.length_cons, List.length_nil]; omega
       · rw [HPF.out, HPN.out]
       · rw [strAt_of HST10.out.cs, HMS.out]; exact HX3.out
  case false =>
   have HPN : Hid (parsF (s1.size + 1) s1.data.toList [] = some (P, s2.data.toList)) := Lib.hid (by
    obtain ⟨f', rfl⟩ : ∃ f', f = f' + 1 := ⟨f - 1, by have := HN2.out; omega⟩
    rw [HPF.out, parsF, HF6.out.no])
   obtain ⟨_, rfl⟩ : True ∧ s3 = s2 := ⟨trivial, by rcases HF6.out with ⟨h, _⟩ | ⟨_, _, h⟩; exact absurd h (by decide); exact h⟩
   have HZ3 : Hid (s3.size ≤ s.size) := Lib.hid (by have := HN2.out; have := HS1.out; omega)
   clear HPF HMS HF6
   go_wp2_with fail
   refine (field_any' h s3 authorN w6 (by have := HZ3.out; have := HS.out; omega) (by decide) HST6.out.cs).mono ?_
   rintro e w7 ⟨x1, b1, s4, rfl, hc7, hs7, hf7⟩
   have HF1 := Lib.hid hf7
   have HST7 := Lib.hid (HST6.out.chg hc7 hs7)
   have HO7 := Lib.hid (HO6.out.chg hc7 (fun k hk e => by have h1 := (HO6.out.lt k hk).1; have h2 := HST6.out.lt1; have h3 := HST6.out.lt2; omega))
   have HZ4 : Hid (s4.size ≤ s.size) := Lib.hid (Nat.le_trans hf7.size HZ3.out)
   have k0 : w7.cell? ⟨g1, 2, none⟩ = some (.string ⟨#[]⟩) := HST7.out.cc.cell 2 (by decide)
   have f0 : w7.frozen? ⟨g1, 2, none⟩ = false := HST7.out.cc.frozen 2
   have k1 : w7.cell? ⟨g2, 1, none⟩ = some (.bool false) := HST7.out.co.cell 1 (by decide)
   have f1 : w7.frozen? ⟨g2, 1, none⟩ = false := HST7.out.co.frozen 1
   clear hc7 hs7 hf7 HST6 HO6
   go_upto_region 10 with (fail)
   have HST8 := Lib.hid ((HST7.out.set (i := 2) (v := .string x1) (t' := x0) (vP' := .slice A P.length cA) (a' := x1) (c' := ⟨#[]⟩) (m' := ⟨#[]⟩) (fun j hj => by rcases j with _ | _ | _ | _ | _ | j <;> first | rfl | omega)).setOk (i := 1) (b := b1) (d0 := b0) (d1 := b1) (d2 := false) (fun j hj => by rcases j with _ | _ | _ | j <;> first | rfl | omega))
   have HO8 := Lib.hid ((HO7.out.setLow (a := ⟨g1, 2, none⟩) (by show g1 < g2 + 1; have := HST7.out.lt2; omega) (.string x1)).setLow (a := ⟨g2, 1, none⟩) (by show g2 < g2 + 1; omega) (.bool b1))
   clear k0 f0 k1 f1 HST7 HO7
   generalize (w7.setCell ⟨g1, 2, none⟩ (.string x1)).setCell ⟨g2, 1, none⟩ (.bool b1) = w8 at *
   go_wp2_with fail
   refine (field_any' h s4 committerN w8 (by have := HZ4.out; have := HS.out; omega) (by decide) HST8.out.cs).mono ?_
   rintro e w9 ⟨x2, b2, s5, rfl, hc9, hs9, hf9⟩
   have HF2 := Lib.hid hf9
   have HST9 := Lib.hid (HST8.out.chg hc9 hs9)
   have HO9 := Lib.hid (HO8.out.chg hc9 (fun k hk e => by have h1 := (HO8.out.lt k hk).1; have h2 := HST8.out.lt1; have h3 := HST8.out.lt2; omega))
   have HZ5 : Hid (s5.size ≤ s.size) := Lib.hid (Nat.le_trans hf9.size HZ4.out)
   have k0 : w9.cell? ⟨g1, 3, none⟩ = some (.string ⟨#[]⟩) := HST9.out.cc.cell 3 (by decide)
   have f0 : w9.frozen? ⟨g1, 3, none⟩ = false := HST9.out.cc.frozen 3
   have k1 : w9.cell? ⟨g2, 2, none⟩ = some (.bool false) := HST9.out.co.cell 2 (by decide)
   have f1 : w9.frozen? ⟨g2, 2, none⟩ = false := HST9.out.co.frozen 2
   clear hc9 hs9 hf9 HST8 HO8
   go_upto_region 11 with (fail)
   have HST10 := Lib.hid ((HST9.out.set (i := 3) (v := .string x2) (t' := x0) (vP' := .slice A P.length cA) (a' := x1) (c' := x2) (m' := ⟨#[]⟩) (fun j hj => by rcases j with _ | _ | _ | _ | _ | j <;> first | rfl | omega)).setOk (i := 2) (b := b2) (d0 := b0) (d1 := b1) (d2 := b2) (fun j hj => by rcases j with _ | _ | _ | j <;> first | rfl | omega))
   have HO10 := Lib.hid ((HO9.out.setLow (a := ⟨g1, 3, none⟩) (by show g1 < g2 + 1; have := HST9.out.lt2; omega) (.string x2)).setLow (a := ⟨g2, 2, none⟩) (by show g2 < g2 + 1; omega) (.bool b2))
   clear k0 f0 k1 f1 HST9 HO9
   generalize (w9.setCell ⟨g1, 3, none⟩ (.string x2)).setCell ⟨g2, 2, none⟩ (.bool b2) = w10 at *
   have k0 : w10.cell? ⟨h, 0, none⟩ = some (.string s5) := HST10.out.cs.cell 0 (by decide)
   have HCP := Lib.hid (Tryz.strings_CutPrefix s5 ⟨#[10]⟩ w10)
   change Hid (Calls Tryz.prog 112 #[.string s5, .string ⟨#[10]⟩] w10 fun e w' => e = .returned (.tuple #[.string (bk (Lib.trimPrefix s5.data.toList [10])), .bool (Lib.hasPrefix s5.data.toList [10])]) ∧ w' = w10) at HCP
   go_wp2_with fail
   refine HCP.out.mono ?_
   rintro e w11 ⟨rfl, rfl⟩
   have q0 : w11.cell? ⟨g2, 0, none⟩ = some (.bool b0) := HST10.out.co.cell 0 (by decide)
   have q1 : w11.cell? ⟨g2, 1, none⟩ = some (.bool b1) := HST10.out.co.cell 1 (by decide)
   have q2 : w11.cell? ⟨g2, 2, none⟩ = some (.bool b2) := HST10.out.co.cell 2 (by decide)
   clear HCP k0
   have hq3 := eq3
   have hgt := Tryz.eqGuardType167
   by_cases hall : (b0 && b1 && b2) = false
   · have HNO : Hid (commitF s.data.toList = none) := Lib.hid (commitF_bad HF0.out HPN.out HF1.out HF2.out hall)
     generalize Lib.hasPrefix s5.data.toList [10] = hp at *
     cases b0 <;> cases b1 <;> cases b2 <;> first | exact absurd hall (by decide) | (clear hall; go_wp2; go_ret2; exact ⟨by rw [HH.out]; exact HST10.out.low, .inl ⟨HNO.out, rfl⟩⟩)
   · obtain ⟨rfl, rfl, rfl⟩ : b0 = true ∧ b1 = true ∧ b2 = true := by revert hall; cases b0 <;> cases b1 <;> cases b2 <;> simp
     have HALL := Lib.hid (commitF_all HF0.out HPN.out HF1.out HF2.out)
     clear hall
     have HE11 : Hid (EnvO w11) := Lib.hid (HE.out.below (by rw [HH.out]; exact HST10.out.low))
     have HZX : Hid (x0.size ≤ s.size ∧ x1.size ≤ s.size ∧ x2.size ≤ s.size) := Lib.hid ⟨HF0.out.xsize.1, by have := HF1.out.xsize; have := HZ3.out; omega, by have := HF2.out.xsize; have := HZ4.out; omega⟩
     have k0 : w11.cell? ⟨g1, 0, none⟩ = some (.string x0) := HST10.out.cc.cell 0 (by decide)
     have HLW : Hid (Below w.heap.size w w11) := Lib.hid (by rw [HH.out]; exact HST10.out.low)
     cases hhp : Lib.hasPrefix s5.data.toList [10]
     · have HNO : Hid (commitF s.data.toList = none) := Lib.hid (by rw [HALL.out, msgF_no hhp]; split <;> rfl)
       clear hhp
       go_wp2
       go_ret2
       exact ⟨HLW.out, .inl ⟨HNO.out, rfl⟩⟩
     · have HMS := Lib.hid (msgF_yes hhp)
       have HML : Hid ((Lib.trimPrefix s5.data.toList [10]).length ≤ s.size) := Lib.hid (by have := trimPrefix_len s5.data.toList [10]; have := HZ5.out; rw [Lib.size_eq s5] at this; omega)
       generalize Lib.trimPrefix s5.data.toList [10] = M at *
       have HH0 := Lib.hid (hash_any x0 w11 (by have := HZX.out; have := HS.out; omega))
       clear hhp
       cases hx0 : hashB (bytesOf x0)
       · have HNO : Hid (commitF s.data.toList = none) := Lib.hid (by rw [HALL.out, if_pos (.inl hx0)])
         rw [hx0] at HH0
         clear hx0
         go_wp2_with (go_at_call 110; refine HH0.out.mono ?_; rintro e w12 ⟨rfl, hb12⟩; have HB12 := Lib.hid hb12; clear hb12)
         go_ret2
         exact ⟨HLW.out.trans (HB12.out.mono HLW.out.size), .inl ⟨HNO.out, rfl⟩⟩
       · rw [hx0] at HH0
         have HX0 := Lib.hid hx0
         clear hx0
         go_wp2_with fail
         refine HH0.out.mono ?_
         rintro e w12 ⟨rfl, hb12⟩
         have HST12 := Lib.hid (HST10.out.below hb12)
         have HO12 := Lib.hid (HO10.out.chg (Chg.of_below (S := fun _ => False) hb12) (fun _ _ h => h))
         have HE12 := Lib.hid (HE11.out.below hb12)
         have HLW12 := Lib.hid (HLW.out.trans (hb12.mono HLW.out.size))
         have k2 : w12.cell? ⟨g1, 2, none⟩ = some (.string x1) := HST12.out.cc.cell 2 (by decide)
         have HP1 := Lib.hid (person_any x1 w12 HE12.out (by have := HZX.out; have := HS.out; omega))
         unfold PersPost at HP1
         clear hb12 k0 q0 q1 q2 HST10 HO10 HE11 HLW HH0
         cases hx1 : persB x1
         · have HNO : Hid (commitF s.data.toList = none) := Lib.hid (by rw [HALL.out, if_pos (.inr (.inl hx1))])
           rw [hx1] at HP1
           clear hx1
           go_wp2_with (go_at_call 113; refine HP1.out.mono ?_; rintro e w13 ⟨rfl, hb13⟩; have HB13 := Lib.hid hb13; clear hb13)
           go_ret2
           exact ⟨HLW12.out.trans (HB13.out.mono HLW12.out.size), .inl ⟨HNO.out, rfl⟩⟩
         · rw [hx1] at HP1
           have HX1 := Lib.hid hx1
           clear hx1
           go_wp2_with fail
           refine HP1.out.mono ?_
           rintro e w13 ⟨rfl, hb13⟩
           have HST13 := Lib.hid (HST12.out.below hb13)
           have HO13 := Lib.hid (HO12.out.chg (Chg.of_below (S := fun _ => False) hb13) (fun _ _ h => h))
           have HE13 := Lib.hid (HE12.out.below hb13)
           have HLW13 := Lib.hid (HLW12.out.trans (hb13.mono HLW12.out.size))
           have k3 : w13.cell? ⟨g1, 3, none⟩ = some (.string x2) := HST13.out.cc.cell 3 (by decide)
           have HP2 := Lib.hid (person_any x2 w13 HE13.out (by have := HZX.out; have := HS.out; omega))
           unfold PersPost at HP2
           clear hb13 k2 HST12 HO12 HE12 HLW12 HP1
           cases hx2 : persB x2
           · have HNO : Hid (commitF s.data.toList = none) := Lib.hid (by rw [HALL.out, if_pos (.inr (.inr hx2))])
             rw [hx2] at HP2
             clear hx2
             go_wp2_with (go_at_call 113; refine HP2.out.mono ?_; rintro e w14 ⟨rfl, hb14⟩; have HB14 := Lib.hid hb14; clear hb14)
             go_ret2
             exact ⟨HLW13.out.trans (HB14.out.mono HLW13.out.size), .inl ⟨HNO.out, rfl⟩⟩
           · rw [hx2] at HP2
             have HX2 := Lib.hid hx2
             clear hx2
             go_wp2_with fail
             refine HP2.out.mono ?_
             rintro e w14 ⟨rfl, hb14⟩
             have HST14 := Lib.hid (HST13.out.below hb14)
             have HO14 := Lib.hid (HO13.out.chg (Chg.of_below (S := fun _ => False) hb14) (fun _ _ h => h))
             have HE14 := Lib.hid (HE13.out.below hb14)
             have HLW14 := Lib.hid (HLW13.out.trans (hb14.mono HLW13.out.size))
             have HTX := Lib.hid (textZ_any (bk M) w14 HE14.out (by rw [bk_size]; have := HML.out; have := HS.out; omega))
             rw [bk_list] at HTX
             clear hb14 k3 HST13 HO13 HE13 HLW13 HP2
             cases hm : withoutB M [0]
             · have HNO : Hid (commitF s.data.toList = none) := Lib.hid (by rw [HALL.out, HMS.out, hm]; split <;> rfl)
               rw [hm] at HTX
               clear hm
               go_wp2_with (go_at_call 114; refine HTX.out.mono ?_; rintro e w15 ⟨rfl, hb15⟩; have HB15 := Lib.hid hb15; clear hb15)
               go_ret2
               exact ⟨HLW14.out.trans (HB15.out.mono HLW14.out.size), .inl ⟨HNO.out, rfl⟩⟩
             · have HYES : Hid (commitF s.data.toList = some ⟨x0.data.toList, P, x1.data.toList, x2.data.toList, M⟩) := Lib.hid (by
                rw [HALL.out, HMS.out, hm, if_neg (by rintro (h | h | h); exact absurd (HX0.out.symm.trans h) (by decide); exact absurd (HX1.out.symm.trans h) (by decide); exact absurd (HX2.out.symm.trans h) (by decide))]; rfl)
               rw [hm] at HTX
               clear hm
               go_wp2_with fail
               refine HTX.out.mono ?_
               rintro e w15 ⟨rfl, hb15⟩
               have HST15 := Lib.hid (HST14.out.below hb15)
               have HO15 := Lib.hid (HO14.out.chg (Chg.of_below (S := fun _ => False) hb15) (fun _ _ h => h))
               have HLW15 := Lib.hid (HLW14.out.trans (hb15.mono HLW14.out.size))
               have k1 : w15.cell? ⟨g1, 1, none⟩ = some (.slice A P.length cA) := HST15.out.cc.cell 1 (by decide)
               have f1 : w15.frozen? ⟨g1, 1, none⟩ = false := HST15.out.cc.frozen 1
               have k0 : w15.cell? ⟨g1, 0, none⟩ = some (.string x0) := HST15.out.cc.cell 0 (by decide)
               have k2 : w15.cell? ⟨g1, 2, none⟩ = some (.string x1) := HST15.out.cc.cell 2 (by decide)
               have k3 : w15.cell? ⟨g1, 3, none⟩ = some (.string x2) := HST15.out.cc.cell 3 (by decide)
               have k4 : w15.cell? ⟨g1, 4, none⟩ = some (.string ⟨#[]⟩) := HST15.out.cc.cell 4 (by decide)
               have f4 : w15.frozen? ⟨g1, 4, none⟩ = false := HST15.out.cc.frozen 4
               have hcp := HO15.out.cap
               have hcm := HO15.out.capm
               clear hb15 HST14 HO14 HE14 HLW14 HTX hne hne' hq3 hgt
               go_wp2_with (go_at_call 47; refine (clipStr_any _ _ _ _ hcp hcm).mono ?_; rintro e w16 ⟨rfl, rfl⟩)
               have hlt1 : w.heap.size ≤ g1 := by rw [HH.out]; exact Nat.le_of_lt HST15.out.lt1
               have hlt2 : g1 < g2 + 1 := by have := HST15.out.lt2; omega
               go_ret2
               refine ⟨(HLW15.out.setCell (p := ⟨g1, 4, none⟩) hlt1 _).setCell (p := ⟨g1, 1, none⟩) hlt1 _, .inr ⟨_, A, HYES.out, by simp only [bk_of]; rfl, ?_⟩⟩
               exact (((HO15.out.clip).setLow (a := ⟨g1, 4, none⟩) hlt2 _).setLow (a := ⟨g1, 1, none⟩) hlt2 _).base_ (by omega)
end Go.Proofs.YtihanglnjghcfaaGreatDoor
namespace Go.Proofs.YtihanglnjghcfaaGreatDoor
open Go.RowKit
set_option linter.unusedVariables false
set_option linter.unusedSimpArgs false

def tgF (t : ByteArray) (vP : Int) (a c m : ByteArray) (j : Nat) : Value := if j = 0 then .string t else if j = 1 then .int .i64 vP else if j = 2 then .string a else if j = 3 then .string c else .string m
def okF4 (b0 b1 b2 b3 : Bool) (j : Nat) : Value := if j = 0 then .bool b0 else if j = 1 then .bool b1 else if j = 2 then .bool b2 else .bool b3
/-- What the reading of a tag holds in memory: the text, the tag so far, which lines came. -/
structure TgSt (w0 w : World) (h g1 g2 : Nat) (s t : ByteArray) (vP : Int) (a c m : ByteArray) (b0 b1 b2 b3 : Bool) : Prop where
 low : Below h w0 w
 lt1 : h < g1
 lt2 : g1 < g2
 cs : Cel w h 9 1 (fun _ => .string s)
 cc : Cel w g1 96 5 (tgF t vP a c m)
 co : Cel w g2 172 4 (okF4 b0 b1 b2 b3)
theorem TgSt.chg {w0 w w' : World} {h g1 g2 : Nat} {s s' t : ByteArray} {vP : Int} {a c m : ByteArray} {b0 b1 b2 b3 : Bool} (k : TgSt w0 w h g1 g2 s t vP a c m b0 b1 b2 b3) (hc : Chg (fun k => k = h) w w') (hs : Cel w' h 9 1 (fun _ => .string s')) : TgSt w0 w' h g1 g2 s' t vP a c m b0 b1 b2 b3 :=
 ⟨k.low.trans (hc.below (Nat.le_of_lt k.cs.blk) (fun i hi e => by omega)), k.lt1, k.lt2, hs, k.cc.chg hc (by have := k.lt1; omega), k.co.chg hc (by have := k.lt1; have := k.lt2; omega)⟩
theorem TgSt.below {w0 w w' : World} {h g1 g2 : Nat} {s t : ByteArray} {vP : Int} {a c m : ByteArray} {b0 b1 b2 b3 : Bool} (k : TgSt w0 w h g1 g2 s t vP a c m b0 b1 b2 b3) (hb : Below w.heap.size w w') : TgSt w0 w' h g1 g2 s t vP a c m b0 b1 b2 b3 :=
 ⟨k.low.trans (hb.mono (Nat.le_of_lt k.cs.blk)), k.lt1, k.lt2, k.cs.below hb k.cs.blk, k.cc.below hb k.cc.blk, k.co.below hb k.co.blk⟩
theorem TgSt.chgHi {w0 w w' : World} {h g1 g2 : Nat} {s t : ByteArray} {vP : Int} {a c m : ByteArray} {b0 b1 b2 b3 : Bool} (k : TgSt w0 w h g1 g2 s t vP a c m b0 b1 b2 b3) (hc : Chg (fun k => g2 + 1 ≤ k) w w') : TgSt w0 w' h g1 g2 s t vP a c m b0 b1 b2 b3 := by
 have h1 := k.lt1
 have h2 := k.lt2
 exact ⟨k.low.trans (hc.below (Nat.le_of_lt k.cs.blk) (fun i hi e => by omega)), k.lt1, k.lt2, k.cs.chg hc (by omega), k.cc.chg hc (by omega), k.co.chg hc (by omega)⟩
theorem TgSt.set {w0 w : World} {h g1 g2 : Nat} {s t : ByteArray} {vP : Int} {a c m : ByteArray} {b0 b1 b2 b3 : Bool} (k : TgSt w0 w h g1 g2 s t vP a c m b0 b1 b2 b3) {i : Nat} {v : Value} {t' : ByteArray} {vP' : Int} {a' c' m' : ByteArray}
 (hf : ∀ j, j < 5 → (if j = i then v else tgF t vP a c m j) = tgF t' vP' a' c' m' j) : TgSt w0 (w.setCell ⟨g1, i, none⟩ v) h g1 g2 s t' vP' a' c' m' b0 b1 b2 b3 :=
 ⟨k.low.setCell (p := ⟨g1, i, none⟩) (Nat.le_of_lt k.lt1) v, k.lt1, k.lt2, k.cs.setFar (Nat.ne_of_lt k.lt1) v, (k.cc.set i v).congr hf, k.co.setFar (Nat.ne_of_gt k.lt2) v⟩
theorem TgSt.setOk {w0 w : World} {h g1 g2 : Nat} {s t : ByteArray} {vP : Int} {a c m : ByteArray} {b0 b1 b2 b3 : Bool} (k : TgSt w0 w h g1 g2 s t vP a c m b0 b1 b2 b3) {i : Nat} {b : Bool} {d0 d1 d2 d3 : Bool}
 (hf : ∀ j, j < 4 → (if j = i then .bool b else okF4 b0 b1 b2 b3 j) = okF4 d0 d1 d2 d3 j) : TgSt w0 (w.setCell ⟨g2, i, none⟩ (.bool b)) h g1 g2 s t vP a c m d0 d1 d2 d3 :=
 ⟨k.low.setCell (p := ⟨g2, i, none⟩) (by have := k.lt1; have := k.lt2; show h ≤ g2; omega) _, k.lt1, k.lt2, k.cs.setFar (by have := k.lt1; have := k.lt2; show h ≠ g2; omega) _, k.cc.setFar (Nat.ne_of_lt k.lt2) _, (k.co.set i _).congr hf⟩
theorem TgSt.new (w : World) (s : ByteArray) : TgSt w (((w.alloc (.cells #[.string s] 9)).alloc (.cells #[.string ⟨#[]⟩, .int .i64 0, .string ⟨#[]⟩, .string ⟨#[]⟩, .string ⟨#[]⟩] 96)).alloc (.cells #[.bool false, .bool false, .bool false, .bool false] 172)) w.heap.size (w.heap.size + 1) (w.heap.size + 1 + 1) s ⟨#[]⟩ 0 ⟨#[]⟩ ⟨#[]⟩ ⟨#[]⟩ false false false false := by
 refine ⟨(((Below.refl _ _).alloc (Nat.le_refl _) _).alloc (by simp) _).alloc (by simp; omega) _, by omega, by omega, ?_, ?_, ?_⟩
 · refine ((Cel.new w 9 #[.string s] (fun _ => .string s) (fun i hi => ?_)).alloc _).alloc _
   have : i < 1 := hi
   obtain rfl : i = 0 := by omega
   rfl
 · have h := (Cel.new (w.alloc (.cells #[.string s] 9)) 96 #[.string ⟨#[]⟩, .int .i64 0, .string ⟨#[]⟩, .string ⟨#[]⟩, .string ⟨#[]⟩] (tgF ⟨#[]⟩ 0 ⟨#[]⟩ ⟨#[]⟩ ⟨#[]⟩) (fun i hi => by
    have : i < 5 := hi
    rcases i with _ | _ | _ | _ | _ | i <;> first | rfl | omega)).alloc (.cells #[.bool false, .bool false, .bool false, .bool false] 172)
   simpa using h
 · have h := Cel.new ((w.alloc (.cells #[.string s] 9)).alloc (.cells #[.string ⟨#[]⟩, .int .i64 0, .string ⟨#[]⟩, .string ⟨#[]⟩, .string ⟨#[]⟩] 96)) 172 #[.bool false, .bool false, .bool false, .bool false] (okF4 false false false false) (fun i hi => by
    have : i < 4 := hi
    rcases i with _ | _ | _ | _ | i <;> first | rfl | omega)
   simpa using h
theorem eq4 (b0 b1 b2 b3 : Bool) (w : World) : (Op.equalIn 10000 172 (.agg #[.bool b0, .bool b1, .bool b2, .bool b3]) (.agg #[.bool true, .bool true, .bool true, .bool true])).run Tryz.prog w = .ok (b0 && (b1 && (b2 && b3))) w := by
 cases b0 <;> cases b1 <;> cases b2 <;> cases b3 <;> kernel_rfl
theorem tagF_bad {s x0 s1 xk s2 x2 s3 x3 s4 : ByteArray} {b0 bt b2 b3 : Bool} (h0 : FieldR objectN s x0 b0 s1) (hk : FieldR typeN s1 xk bt s2) (h2 : FieldR tagN s2 x2 b2 s3) (h3 : FieldR taggerN s3 x3 b3 s4)
 (hb : (b0 && (bt && (decide (0 < kindN xk) && (b2 && b3)))) = false) : tagF s.data.toList = none := by
 unfold tagF
 cases b0
 · rw [h0.no]
 · rw [h0.yes]
   show (if hashU x0.data.toList = false then none else _) = none
   split
   · rfl
   · cases bt
     · simp only [hk.no]
     · simp only [hk.yes]
       split
       · rfl
       · next hkn =>
         rw [bk_of] at hkn
         cases b2
         · simp only [h2.no]
         · simp only [h2.yes]
           split
           · rfl
           · cases b3
             · simp only [h3.no]
             · exfalso
               have : decide (0 < kindN xk) = true := decide_eq_true (by omega)
               rw [this] at hb
               exact absurd hb (by decide)
theorem tagF_all {s x0 s1 xk s2 x2 s3 x3 s4 : ByteArray} (h0 : FieldR objectN s x0 true s1) (hk : FieldR typeN s1 xk true s2) (h2 : FieldR tagN s2 x2 true s3) (h3 : FieldR taggerN s3 x3 true s4) (hkn : 0 < kindN xk) :
 tagF s.data.toList = if hashB (bytesOf x0) = false ∨ labelB x2 = false ∨ persB x3 = false then none else (msgF s4.data.toList).map fun m => ⟨x0.data.toList, kindN xk, x2.data.toList, x3.data.toList, m⟩ := by
 unfold tagF
 rw [h0.yes]
 show (if hashU x0.data.toList = false then none else _) = _
 unfold hashU
 rw [bk_of]
 by_cases e0 : hashB (bytesOf x0) = false
 · rw [if_pos e0, if_pos (.inl e0)]
 · rw [if_neg e0]
   simp only [hk.yes]
   rw [bk_of, if_neg (by omega)]
   simp only [h2.yes]
   rw [bk_of]
   by_cases e1 : labelB x2 = false
   · rw [if_pos e1, if_pos (.inr (.inl e1))]
   · rw [if_neg e1]
     simp only [h3.yes]
     rw [bk_of]
     by_cases e2 : persB x3 = false
     · rw [if_pos e2, if_pos (.inr (.inr e2))]
     · rw [if_neg e2, if_neg (by rintro (h | h | h); exact e0 h; exact e1 h; exact e2 h)]
       cases msgF s4.data.toList <;> rfl
/-- What reading a tag answers. -/
def TagPost (s : ByteArray) (w : World) (e : Ending) (w' : World) : Prop :=
 Below w.heap.size w w' ∧ ((tagF s.data.toList = none ∧ e = .returned (.tuple #[.nilIface, .bool false])) ∨
  ∃ r, tagF s.data.toList = some r ∧ e = .returned (.tuple #[.iface 96 (.agg #[.string (bk r.o), .int .i64 (r.k : Int), .string (bk r.n), .string (bk r.g), .string (bk r.m)]), .bool true]))
set_option maxRecDepth 100000 in
set_option maxHeartbeats 4000000 in
theorem tag_any (s : ByteArray) (w : World) (hE : EnvO w) (hs : s.size ≤ 8796093022000) : Calls Tryz.prog 86 #[.string s] w (TagPost s w) := by
 have HE := Lib.hid hE
 have HS := Lib.hid hs
 have hst := TgSt.new w s
 clear hE hs
 go_enter Tryz.func86, Tryz.ntmps86
 go_upto_region 3 with (fail)
 generalize ((w.alloc (.cells #[.string s] 9)).alloc (.cells #[.string ⟨#[]⟩, .int .i64 0, .string ⟨#[]⟩, .string ⟨#[]⟩, .string ⟨#[]⟩] 96)).alloc (.cells #[.bool false, .bool false, .bool false, .bool false] 172) = w3 at *
 generalize hg2 : w.heap.size + 1 + 1 = g2 at *
 generalize hg1 : w.heap.size + 1 = g1 at *
 generalize hh : w.heap.size = h at *
 have HH := Lib.hid hh
 have HST3 := Lib.hid hst
 have hne : g1 ≠ g2 := Nat.ne_of_lt hst.lt2
 have hne' : g2 ≠ g1 := Ne.symm hne
 clear hh hg1 hg2 hst
 go_wp2_with fail
 refine (field_any' h s objectN w3 (Nat.le_trans HS.out (by decide)) (by decide) HST3.out.cs).mono ?_
 rintro e w4 ⟨x0, b0, s1, rfl, hc, hs', hf⟩
 have HF0 := Lib.hid hf
 have HST4 := Lib.hid (HST3.out.chg hc hs')
 have HZ1 : Hid (s1.size ≤ s.size) := Lib.hid hf.size
 have k0 : w4.cell? ⟨g1, 0, none⟩ = some (.string ⟨#[]⟩) := HST4.out.cc.cell 0 (by decide)
 have f0 : w4.frozen? ⟨g1, 0, none⟩ = false := HST4.out.cc.frozen 0
 have k1 : w4.cell? ⟨g2, 0, none⟩ = some (.bool false) := HST4.out.co.cell 0 (by decide)
 have f1 : w4.frozen? ⟨g2, 0, none⟩ = false := HST4.out.co.frozen 0
 clear hc hs' hf HST3
 go_upto_region 4 with (fail)
 have HST5 := Lib.hid ((HST4.out.set (i := 0) (v := .string x0) (t' := x0) (vP' := 0) (a' := ⟨#[]⟩) (c' := ⟨#[]⟩) (m' := ⟨#[]⟩) (fun j hj => by rcases j with _ | _ | _ | _ | _ | j <;> first | rfl | omega)).setOk (i := 0) (b := b0) (d0 := b0) (d1 := false) (d2 := false) (d3 := false) (fun j hj => by rcases j with _ | _ | _ | _ | j <;> first | rfl | omega))
 clear k0 f0 k1 f1 HST4
 generalize (w4.setCell ⟨g1, 0, none⟩ (.string x0)).setCell ⟨g2, 0, none⟩ (.bool b0) = w5 at *
 go_wp2_with fail
 refine (field_any' h s1 typeN w5 (by have := HZ1.out; have := HS.out; omega) (by decide) HST5.out.cs).mono ?_
 rintro e w6 ⟨xk, bt, s2, rfl, hc, hs', hf⟩
 have HFK := Lib.hid hf
 have HST6 := Lib.hid (HST5.out.chg hc hs')
 have HZ2 : Hid (s2.size ≤ s.size) := Lib.hid (Nat.le_trans hf.size HZ1.out)
 clear hc hs' hf HST5
 have HKD := Lib.hid (kind_any xk w6)
 unfold KindPost at HKD
 go_wp2_with fail
 refine HKD.out.mono ?_
 rintro e w7 ⟨rfl, hb7⟩
 have HST7 := Lib.hid (HST6.out.below hb7)
 have k0 : w7.cell? ⟨g1, 1, none⟩ = some (.int .i64 0) := HST7.out.cc.cell 1 (by decide)
 have f0 : w7.frozen? ⟨g1, 1, none⟩ = false := HST7.out.cc.frozen 1
 have k1 : w7.cell? ⟨g2, 1, none⟩ = some (.bool false) := HST7.out.co.cell 1 (by decide)
 have f1 : w7.frozen? ⟨g2, 1, none⟩ = false := HST7.out.co.frozen 1
 clear hb7 HST6 HKD
 generalize hkk : decide (0 < kindN xk) = kk at *
 have HKK := Lib.hid hkk
 generalize hkn : ((kindN xk : Nat) : Int) = kn at *
 have HKN := Lib.hid hkn
 clear hkk hkn
 go_upto_region 6 with (fail)
 have HST8 := Lib.hid ((HST7.out.set (i := 1) (v := .int .i64 kn) (t' := x0) (vP' := kn) (a' := ⟨#[]⟩) (c' := ⟨#[]⟩) (m' := ⟨#[]⟩) (fun j hj => by rcases j with _ | _ | _ | _ | _ | j <;> first | rfl | omega)).setOk (i := 1) (b := kk) (d0 := b0) (d1 := kk) (d2 := false) (d3 := false) (fun j hj => by rcases j with _ | _ | _ | _ | j <;> first | rfl | omega))
 clear k0 f0 k1 f1 HST7
 generalize (w7.setCell ⟨g1, 1, none⟩ (.int .i64 kn)).setCell ⟨g2, 1, none⟩ (.bool kk) = w8 at *
 go_wp2_with fail
 refine (field_any' h s2 tagN w8 (by have := HZ2.out; have := HS.out; omega) (by decide) HST8.out.cs).mono ?_
 rintro e w9 ⟨x2, b2, s3, rfl, hc, hs', hf⟩
 have HF2 := Lib.hid hf
 have HST9 := Lib.hid (HST8.out.chg hc hs')
 have HZ3 : Hid (s3.size ≤ s.size) := Lib.hid (Nat.le_trans hf.size HZ2.out)
 have k0 : w9.cell? ⟨g1, 2, none⟩ = some (.string ⟨#[]⟩) := HST9.out.cc.cell 2 (by decide)
 have f0 : w9.frozen? ⟨g1, 2, none⟩ = false := HST9.out.cc.frozen 2
 have k1 : w9.cell? ⟨g2, 2, none⟩ = some (.bool false) := HST9.out.co.cell 2 (by decide)
 have f1 : w9.frozen? ⟨g2, 2, none⟩ = false := HST9.out.co.frozen 2
 clear hc hs' hf HST8
 go_upto_region 7 with (fail)
 have HST10 := Lib.hid ((HST9.out.set (i := 2) (v := .string x2) (t' := x0) (vP' := kn) (a' := x2) (c' := ⟨#[]⟩) (m' := ⟨#[]⟩) (fun j hj => by rcases j with _ | _ | _ | _ | _ | j <;> first | rfl | omega)).setOk (i := 2) (b := b2) (d0 := b0) (d1 := kk) (d2 := b2) (d3 := false) (fun j hj => by rcases j with _ | _ | _ | _ | j <;> first | rfl | omega))
 clear k0 f0 k1 f1 HST9
 generalize (w9.setCell ⟨g1, 2, none⟩ (.string x2)).setCell ⟨g2, 2, none⟩ (.bool b2) = w10 at *
 go_wp2_with fail
 refine (field_any' h s3 taggerN w10 (by have := HZ3.out; have := HS.out; omega) (by decide) HST10.out.cs).mono ?_
 rintro e w11 ⟨x3, b3, s4, rfl, hc, hs', hf⟩
 have HF3 := Lib.hid hf
 have HST11 := Lib.hid (HST10.out.chg hc hs')
 have HZ4 : Hid (s4.size ≤ s.size) := Lib.hid (Nat.le_trans hf.size HZ3.out)
 have k0 : w11.cell? ⟨g1, 3, none⟩ = some (.string ⟨#[]⟩) := HST11.out.cc.cell 3 (by decide)
 have f0 : w11.frozen? ⟨g1, 3, none⟩ = false := HST11.out.cc.frozen 3
 have k1 : w11.cell? ⟨g2, 3, none⟩ = some (.bool false) := HST11.out.co.cell 3 (by decide)
 have f1 : w11.frozen? ⟨g2, 3, none⟩ = false := HST11.out.co.frozen 3
 clear hc hs' hf HST10
 go_upto_region 8 with (fail)
 have HST12 := Lib.hid ((HST11.out.set (i := 3) (v := .string x3) (t' := x0) (vP' := kn) (a' := x2) (c' := x3) (m' := ⟨#[]⟩) (fun j hj => by rcases j with _ | _ | _ | _ | _ | j <;> first | rfl | omega)).setOk (i := 3) (b := b3) (d0 := b0) (d1 := kk) (d2 := b2) (d3 := b3) (fun j hj => by rcases j with _ | _ | _ | _ | j <;> first | rfl | omega))
 clear k0 f0 k1 f1 HST11
 generalize (w11.setCell ⟨g1, 3, none⟩ (.string x3)).setCell ⟨g2, 3, none⟩ (.bool b3) = w12 at *
 have k0 : w12.cell? ⟨h, 0, none⟩ = some (.string s4) := HST12.out.cs.cell 0 (by decide)
 have HCP := Lib.hid (Tryz.strings_CutPrefix s4 ⟨#[10]⟩ w12)
 change Hid (Calls Tryz.prog 112 #[.string s4, .string ⟨#[10]⟩] w12 fun e w' => e = .returned (.tuple #[.string (bk (Lib.trimPrefix s4.data.toList [10])), .bool (Lib.hasPrefix s4.data.toList [10])]) ∧ w' = w12) at HCP
 go_wp2_with fail
 refine HCP.out.mono ?_
 rintro e w13 ⟨rfl, rfl⟩
 have q0 : w13.cell? ⟨g2, 0, none⟩ = some (.bool b0) := HST12.out.co.cell 0 (by decide)
 have q1 : w13.cell? ⟨g2, 1, none⟩ = some (.bool kk) := HST12.out.co.cell 1 (by decide)
 have q2 : w13.cell? ⟨g2, 2, none⟩ = some (.bool b2) := HST12.out.co.cell 2 (by decide)
 have q3 : w13.cell? ⟨g2, 3, none⟩ = some (.bool b3) := HST12.out.co.cell 3 (by decide)
 have hq4 := eq4
 have hgt := Tryz.eqGuardType172
 have HLW : Hid (Below w.heap.size w w13) := Lib.hid (by rw [HH.out]; exact HST12.out.low)
 clear HCP k0
 by_cases hall : (b0 && (bt && (kk && (b2 && b3)))) = false
 · have HNO : Hid (tagF s.data.toList = none) := Lib.hid (tagF_bad HF0.out HFK.out HF2.out HF3.out (by rw [HKK.out]; exact hall))
   generalize Lib.hasPrefix s4.data.toList [10] = hp at *
   cases b0 <;> cases kk <;> cases b2 <;> cases b3 <;> first | (clear hall; go_wp2; go_ret2; exact ⟨HLW.out, .inl ⟨HNO.out, rfl⟩⟩) | (cases bt <;> first | exact absurd hall (by decide) | (clear hall; go_wp2; go_ret2; exact ⟨HLW.out, .inl ⟨HNO.out, rfl⟩⟩))
 · obtain ⟨rfl, rfl, rfl, rfl, rfl⟩ : b0 = true ∧ bt = true ∧ kk = true ∧ b2 = true ∧ b3 = true := by revert hall; cases b0 <;> cases bt <;> cases kk <;> cases b2 <;> cases b3 <;> simp
   have HALL := Lib.hid (tagF_all HF0.out HFK.out HF2.out HF3.out (of_decide_eq_true HKK.out))
   clear hall
   have HE11 : Hid (EnvO w13) := Lib.hid (HE.out.below HLW.out)
   have HZX : Hid (x0.size ≤ s.size ∧ x2.size ≤ s.size ∧ x3.size ≤ s.size) := Lib.hid ⟨HF0.out.xsize.1, by have := HF2.out.xsize; have := HZ2.out; omega, by have := HF3.out.xsize; have := HZ3.out; omega⟩
   have k0 : w13.cell? ⟨g1, 0, none⟩ = some (.string x0) := HST12.out.cc.cell 0 (by decide)
   cases hhp : Lib.hasPrefix s4.data.toList [10]
   · have HNO : Hid (tagF s.data.toList = none) := Lib.hid (by rw [HALL.out, msgF_no hhp]; split <;> rfl)
     clear hhp
     go_wp2
     go_ret2
     exact ⟨HLW.out, .inl ⟨HNO.out, rfl⟩⟩
   · have HMS := Lib.hid (msgF_yes hhp)
     have HML : Hid ((Lib.trimPrefix s4.data.toList [10]).length ≤ s.size) := Lib.hid (by have := trimPrefix_len s4.data.toList [10]; have := HZ4.out; rw [Lib.size_eq s4] at this; omega)
     generalize Lib.trimPrefix s4.data.toList [10] = M at *
     have HH0 := Lib.hid (hash_any x0 w13 (by have := HZX.out; have := HS.out; omega))
     clear hhp
     cases hx0 : hashB (bytesOf x0)
     · have HNO : Hid (tagF s.data.toList = none) := Lib.hid (by rw [HALL.out, if_pos (.inl hx0)])
       rw [hx0] at HH0
       clear hx0
       go_wp2_with (go_at_call 110; refine HH0.out.mono ?_; rintro e w14 ⟨rfl, hb14⟩; have HB14 := Lib.hid hb14; clear hb14)
       go_ret2
       exact ⟨HLW.out.trans (HB14.out.mono HLW.out.size), .inl ⟨HNO.out, rfl⟩⟩
     · rw [hx0] at HH0
       have HX0 := Lib.hid hx0
       clear hx0
       go_wp2_with fail
       refine HH0.out.mono ?_
       rintro e w14 ⟨rfl, hb14⟩
       have HST14 := Lib.hid (HST12.out.below hb14)
       have HE14 := Lib.hid (HE11.out.below hb14)
       have HLW14 := Lib.hid (HLW.out.trans (hb14.mono HLW.out.size))
       have k2 : w14.cell? ⟨g1, 2, none⟩ = some (.string x2) := HST14.out.cc.cell 2 (by decide)
       have HP1 := Lib.hid (label_any x2 w14 HE14.out (by have := HZX.out; have := HS.out; omega))
       clear hb14 k0 q0 q1 q2 q3 HST12 HE11 HLW HH0
       cases hx1 : labelB x2
       · have HNO : Hid (tagF s.data.toList = none) := Lib.hid (by rw [HALL.out, if_pos (.inr (.inl hx1))])
         rw [hx1] at HP1
         clear hx1
         go_wp2_with (go_at_call 116; refine HP1.out.mono ?_; rintro e w15 ⟨rfl, hb15⟩; have HB15 := Lib.hid hb15; clear hb15)
         go_ret2
         exact ⟨HLW14.out.trans (HB15.out.mono HLW14.out.size), .inl ⟨HNO.out, rfl⟩⟩
       · rw [hx1] at HP1
         have HX1 := Lib.hid hx1
         clear hx1
         go_wp2_with fail
         refine HP1.out.mono ?_
         rintro e w15 ⟨rfl, hb15⟩
         have HST15 := Lib.hid (HST14.out.below hb15)
         have HE15 := Lib.hid (HE14.out.below hb15)
         have HLW15 := Lib.hid (HLW14.out.trans (hb15.mono HLW14.out.size))
         have k3 : w15.cell? ⟨g1, 3, none⟩ = some (.string x3) := HST15.out.cc.cell 3 (by decide)
         have HP2 := Lib.hid (person_any x3 w15 HE15.out (by have := HZX.out; have := HS.out; omega))
         unfold PersPost at HP2
         clear hb15 k2 HST14 HE14 HLW14 HP1
         cases hx2 : persB x3
         · have HNO : Hid (tagF s.data.toList = none) := Lib.hid (by rw [HALL.out, if_pos (.inr (.inr hx2))])
           rw [hx2] at HP2
           clear hx2
           go_wp2_with (go_at_call 113; refine HP2.out.mono ?_; rintro e w16 ⟨rfl, hb16⟩; have HB16 := Lib.hid hb16; clear hb16)
           go_ret2
           exact ⟨HLW15.out.trans (HB16.out.mono HLW15.out.size), .inl ⟨HNO.out, rfl⟩⟩
         · rw [hx2] at HP2
           have HX2 := Lib.hid hx2
           clear hx2
           go_wp2_with fail
           refine HP2.out.mono ?_
           rintro e w16 ⟨rfl, hb16⟩
           have HST16 := Lib.hid (HST15.out.below hb16)
           have HE16 := Lib.hid (HE15.out.below hb16)
           have HLW16 := Lib.hid (HLW15.out.trans (hb16.mono HLW15.out.size))
           have HTX := Lib.hid (textZ_any (bk M) w16 HE16.out (by rw [bk_size]; have := HML.out; have := HS.out; omega))
           rw [bk_list] at HTX
           clear hb16 k3 HST15 HE15 HLW15 HP2
           cases hm : withoutB M [0]
           · have HNO : Hid (tagF s.data.toList = none) := Lib.hid (by rw [HALL.out, HMS.out, hm]; split <;> rfl)
             rw [hm] at HTX
             clear hm
             go_wp2_with (go_at_call 114; refine HTX.out.mono ?_; rintro e w17 ⟨rfl, hb17⟩; have HB17 := Lib.hid hb17; clear hb17)
             go_ret2
             exact ⟨HLW16.out.trans (HB17.out.mono HLW16.out.size), .inl ⟨HNO.out, rfl⟩⟩
           · have HYES : Hid (tagF s.data.toList = some ⟨x0.data.toList, kindN xk, x2.data.toList, x3.data.toList, M⟩) := Lib.hid (by
              rw [HALL.out, HMS.out, hm, if_neg (by rintro (h | h | h); exact absurd (HX0.out.symm.trans h) (by decide); exact absurd (HX1.out.symm.trans h) (by decide); exact absurd (HX2.out.symm.trans h) (by decide))]; rfl)
             rw [hm] at HTX
             clear hm
             go_wp2_with fail
             refine HTX.out.mono ?_
             rintro e w17 ⟨rfl, hb17⟩
             have HST17 := Lib.hid (HST16.out.below hb17)
             have HLW17 := Lib.hid (HLW16.out.trans (hb17.mono HLW16.out.size))
             have k0 : w17.cell? ⟨g1, 0, none⟩ = some (.string x0) := HST17.out.cc.cell 0 (by decide)
             have k1 : w17.cell? ⟨g1, 1, none⟩ = some (.int .i64 kn) := HST17.out.cc.cell 1 (by decide)
             have k2 : w17.cell? ⟨g1, 2, none⟩ = some (.string x2) := HST17.out.cc.cell 2 (by decide)
             have k3 : w17.cell? ⟨g1, 3, none⟩ = some (.string x3) := HST17.out.cc.cell 3 (by decide)
             have k4 : w17.cell? ⟨g1, 4, none⟩ = some (.string ⟨#[]⟩) := HST17.out.cc.cell 4 (by decide)
             have f4 : w17.frozen? ⟨g1, 4, none⟩ = false := HST17.out.cc.frozen 4
             clear hb17 HST16 HE16 HLW16 HTX hne hne' hq4 hgt
             go_wp2
             have hlt1 : w.heap.size ≤ g1 := by rw [HH.out]; exact Nat.le_of_lt HST17.out.lt1
             go_ret2
             exact ⟨HLW17.out.setCell (p := ⟨g1, 4, none⟩) hlt1 _, .inr ⟨_, HYES.out, by simp only [bk_of, HKN.out]; rfl⟩⟩
end Go.Proofs.YtihanglnjghcfaaGreatDoor
