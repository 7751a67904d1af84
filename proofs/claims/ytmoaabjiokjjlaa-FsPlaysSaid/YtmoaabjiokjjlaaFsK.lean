/- Create. -/
import Derived.Test.YtmoaabjiokjjlaaFsJ
namespace Go.Proofs.Ytmoaabjiokjjlaa
open Go.RowKit Go.Maps
set_option linter.unusedVariables false
set_option linter.unusedSimpArgs false

section
variable {w w' : World} {F F' : Nat → Prop} {q : Pl} {S S' : Fs} {N M : Nat}
theorem chV_congr {fb fb' : Nat → Nat} {c : Ch} (h : ∀ i, chId c = some i → fb i = fb' i) : chV fb c = chV fb' c := by
  cases c with
  | create n f =>
    show Value.iface _ (.agg #[.string (bkN n), ptrV (fb f)]) = .iface _ (.agg #[.string (bkN n), ptrV (fb' f)])
    rw [h f rfl]
  | rename a b f => rfl
  | remove n => rfl
def nFile : Fl := ⟨[], 0⟩
def addPl (q : Pl) (n g : Nat) : Pl := { q with fb := updF q.fb n g, fv := updF q.fv n (.slice none 0 0), lv := fun i => q.lv i ∨ i = n }
/-- A new file, that has no name yet. -/
theorem FsAt.addFile (h : FsAt w F q S) (hI : Inv N M S) :
    FsAt (w.alloc (.cells #[.slice none 0 0, .int .i64 0] 66)) (fun k => F k ∨ w.heap.size ≤ k) (addPl q S.files.length w.heap.size) { S with files := S.files ++ [nFile] } := by
  have h1 := h.alloc (.cells #[.slice none 0 0, .int .i64 0] 66)
  have ne : ∀ i, q.lv i → i ≠ S.files.length := fun i hi => by have := h.lvt hi; omega
  have eb : ∀ i, q.lv i → q.fb i = updF q.fb S.files.length w.heap.size i := fun i hi => by unfold updF; rw [if_neg (ne i hi)]
  have ev : ∀ i, q.lv i → updF q.fv S.files.length (.slice none 0 0) i = q.fv i := fun i hi => by unfold updF; rw [if_neg (ne i hi)]
  have bl : ∀ i, q.lv i → q.fb i < w.heap.size := fun i hi => by
    obtain ⟨x, _, hx⟩ := h.file i hi
    exact hx.cel.blk
  have e0 : updF q.fb S.files.length w.heap.size S.files.length = w.heap.size := by unfold updF; rw [if_pos rfl]
  have v0 : updF q.fv S.files.length (Value.slice none 0 0) S.files.length = .slice none 0 0 := by unfold updF; rw [if_pos rfl]
  refine ⟨h1.cel, h1.now.congr fun p hp => eb _ (h.lvn hI p hp), h1.last.congr fun p hp => eb _ (h.lvl p hp), ?_, fun i hi => ?_, fun i j hi hj he => ?_, fun i j k hi hj hk1 hk2 => ?_, h.maps, fun p hp => .inl (h.lvl p hp), fun c hc i hi => .inl (h.lvw c hc i hi), h.nms, ?_⟩
  · have : S.wait.map (chV (updF q.fb S.files.length w.heap.size)) = S.wait.map (chV q.fb) := List.map_congr_left fun c hc => (chV_congr fun i hi => eb i (h.lvw c hc i hi)).symm
    show OwnS _ 0 _ 1 q.vc S.wait.length (S.wait.map (chV (updF q.fb S.files.length w.heap.size)))
    rw [this]
    exact h1.wait
  · rcases hi with hi | rfl
    · obtain ⟨x, hx, hf⟩ := h1.file i hi
      refine ⟨x, by rw [List.getElem?_append_left (h.lvt hi)]; exact hx, ?_⟩
      show FlAt _ (updF q.fb S.files.length w.heap.size i) (updF q.fv S.files.length (.slice none 0 0) i) x
      rw [← eb i hi, ev i hi]
      exact hf
    · refine ⟨nFile, by rw [List.getElem?_append_right (Nat.le_refl _), Nat.sub_self]; rfl, ?_⟩
      show FlAt _ (updF q.fb S.files.length w.heap.size S.files.length) (updF q.fv S.files.length (.slice none 0 0) S.files.length) nFile
      rw [e0, v0]
      exact ⟨Cel.new w 66 #[.slice none 0 0, .int .i64 0] _ (fun i hi => by
        have hi' : i < 2 := hi
        have : i = 0 ∨ i = 1 := by omega
        rcases this with rfl | rfl <;> rfl), OwnS.nil _ _ _ _⟩
  · have he' : updF q.fb S.files.length w.heap.size i = updF q.fb S.files.length w.heap.size j := he
    rcases hi with hi | rfl <;> rcases hj with hj | rfl
    · rw [← eb i hi, ← eb j hj] at he'; exact h.inj i j hi hj he'
    · rw [← eb i hi, e0] at he'; have := bl i hi; omega
    · rw [← eb j hj, e0] at he'; have := bl j hj; omega
    · rfl
  · have hk1' : (updF q.fv S.files.length (.slice none 0 0) i).ownBlock = some k := hk1
    have hk2' : (updF q.fv S.files.length (.slice none 0 0) j).ownBlock = some k := hk2
    rcases hi with hi | rfl
    · rcases hj with hj | rfl
      · rw [ev i hi] at hk1'; rw [ev j hj] at hk2'; exact h.rows i j k hi hj hk1' hk2'
      · rw [v0] at hk2'; cases hk2'
    · rw [v0] at hk1'; cases hk1'
  · refine ⟨.inl h.mem.p, .inl h.mem.mn, .inl h.mem.ml, fun k hk => .inl (h.mem.vc k hk), fun i hi => ?_, fun i k hi hk => ?_⟩
    · show F (updF q.fb S.files.length w.heap.size i) ∨ w.heap.size ≤ updF q.fb S.files.length w.heap.size i
      rcases hi with hi | rfl
      · rw [← eb i hi]; exact .inl (h.mem.fb i hi)
      · rw [e0]; exact .inr (Nat.le_refl _)
    · have hk' : (updF q.fv S.files.length (.slice none 0 0) i).ownBlock = some k := hk
      rcases hi with hi | rfl
      · rw [ev i hi] at hk'; exact .inl (h.mem.fv i k hi hk')
      · rw [v0] at hk'; cases hk'
theorem okW_lt {n : Nat} : ∀ {W : List Ch} {l : Ns}, okW n l W → ∀ c ∈ W, ∀ i, chId c = some i → i < n
  | [], _, _, _, hc, _, _ => by cases hc
  | d :: W, l, h, c, hc, i, hi => by
    rcases List.mem_cons.1 hc with rfl | hc
    · cases c with
      | create m f => injection hi with hi; subst hi; exact h.1
      | rename a b f => cases hi
      | remove m => cases hi
    · exact okW_lt h.2 c hc i hi
/-- The last file is of no use: it was not made. -/
theorem FsAt.less {T : Fs} {x : Fl} (h : FsAt w F q { T with files := S.files ++ [x] }) (hT : T.files = S.files) (h1 : ∀ p ∈ T.last, p.2 < S.files.length) (h2 : ∀ c ∈ T.wait, ∀ i, chId c = some i → i < S.files.length) :
    FsAt w F { q with lv := fun i => q.lv i ∧ i < S.files.length } T := by
  refine ⟨h.cel, h.now, h.last, h.wait, fun i hi => ?_, fun i j hi hj => h.inj i j hi.1 hj.1, fun i j k hi hj => h.rows i j k hi.1 hj.1, h.maps, fun p hp => ⟨h.lvl p hp, h1 p hp⟩, fun c hc i hi => ⟨h.lvw c hc i hi, h2 c hc i hi⟩, h.nms, ⟨h.mem.p, h.mem.mn, h.mem.ml, h.mem.vc, fun i hi => h.mem.fb i hi.1, fun i k hi => h.mem.fv i k hi.1⟩⟩
  obtain ⟨y, hy, hf⟩ := h.file i hi.1
  refine ⟨y, ?_, hf⟩
  rw [hT, ← List.getElem?_append_left (l₂ := [x]) hi.2]
  exact hy
end
set_option maxRecDepth 100000 in
set_option maxHeartbeats 2000000 in
theorem create_any (w : World) (F : Nat → Prop) (q : Pl) (S : Fs) (N : Nat) (h : FsAt w F q S) (hI : Inv N 16777216 S) (hN : N < 1000000) (s : ByteArray) (hs : s.size ≤ 9223372036854775807) :
    Calls Try.prog 10 #[ptrV q.p, .string s] w (ToPost F q.p (createF S s.data.toList) w) := by
  have hl0 : Below w.heap.size w (w.alloc (.cells #[.string s] 9)) := (Below.refl _ _).alloc (Nat.le_refl _) _
  have h0 := h.below hl0
  have HNM := Lib.hid (named_any _ F q S h0 (some ⟨w.heap.size, 0, none⟩) 1 1 [s] (strA_one w s) rfl (by decide) (by intro t ht; rw [List.mem_singleton.1 ht]; exact hs))
  have HLK := Lib.hid (h0.now.look s hs)
  have c1 := h0.c1
  have HPO : Hid (∀ e w', ToPost F q.p (createF S s.data.toList) w e w' = (e = .returned (.int .i64 (createF S s.data.toList).1) ∧ FsTo F q.p w (createF S s.data.toList).2 w')) := Lib.hid (fun _ _ => rfl)
  generalize ToPost F q.p (createF S s.data.toList) w = POST at *
  have hrn : createF S s.data.toList = if namedF S [s.data.toList] ≠ 0 then (namedF S [s.data.toList], S) else if getN S.now s.data.toList ≠ none then (64, S) else if burnOk S = false then (50, burnF S) else (0, changeF { burnF S with files := S.files ++ [nFile] } (.create s.data.toList S.files.length)) := rfl
  have HRN := Lib.hid hrn
  have HL := Lib.hid hl0
  have HH := Lib.hid h0
  have HI := Lib.hid hI
  change Hid (Calls _ _ _ _ fun e w' => e = .returned (.int .i64 (namedF S [s.data.toList])) ∧ w' = _) at HNM
  have HZ : Hid (namedF S [s.data.toList] = 0 → s.data.toList.length ≤ 200) := Lib.hid (fun h => (okN_len (named_zero h _ (by simp))).2)
  have HK : Hid (bkN s.data.toList = s) := Lib.hid (bkN_of s)
  clear h h0 hl0 hrn hs hI
  generalize namedF S [s.data.toList] = nm at *
  unfold ptrV at *
  go_enter Try.func10, Try.ntmps10
  go_upto_region 2 with (go_at_call 32; refine HNM.out.mono ?_; rintro e w1 ⟨rfl, rfl⟩)
  generalize w.alloc (.cells #[.string s] 9) = w1 at *
  by_cases h0 : nm = 0
  · subst h0
    have hlk := HLK.out
    have z1 := HZ.out rfl
    cases hg : getN S.now s.data.toList with
    | some f =>
      rw [hg] at hlk
      unfold optV ptrV at hlk
      have HO : Hid (createF S s.data.toList = (64, S)) := Lib.hid (by rw [HRN.out, if_neg (by decide), if_pos (by rw [hg]; simp)])
      clear hg z1
      go_wp2
      rw [HPO.out, HO.out]
      exact ⟨rfl, q, HH.out.mono fun k hk => .inl hk, rfl, Chg.of_below HL.out⟩
    | none =>
      rw [hg] at hlk
      unfold optV at hlk
      have HO : Hid (createF S s.data.toList = (if burnOk S then 0 else 50, if burnOk S then changeF { burnF S with files := S.files ++ [nFile] } (.create s.data.toList S.files.length) else burnF S)) := Lib.hid (by rw [HRN.out, if_neg (by decide), if_neg (by rw [hg]; simp)]; cases burnOk S <;> rfl)
      have hc := change_any _ _ (addPl q S.files.length w1.heap.size) { S with files := S.files ++ [nFile] } (N + 1) (.create s.data.toList S.files.length) (HH.out.addFile HI.out) HI.out.file (by omega)
        (by show S.files.length < (S.files ++ [nFile]).length; simp) (fun i hi => by injection hi with hi; exact .inr hi.symm) z1
      have e0 : chV (addPl q S.files.length w1.heap.size).fb (.create s.data.toList S.files.length) = .iface 68 (.agg #[.string s, .pointer (some ⟨w1.heap.size, 0, none⟩)]) := by
        show Value.iface _ (.agg #[.string (bkN s.data.toList), ptrV (updF q.fb S.files.length w1.heap.size S.files.length)]) = _
        rw [HK.out, show updF q.fb S.files.length w1.heap.size S.files.length = w1.heap.size by unfold updF; rw [if_pos rfl]]
        rfl
      rw [e0] at hc
      have HC := Lib.hid hc
      unfold ChangePost at HC
      change Hid (Calls _ _ #[.pointer (some ⟨q.p, 0, none⟩), _] _ fun e w' => e = .returned (.int .i64 (if burnOk S = true then 0 else 50)) ∧ FsTo (fun k => F k ∨ w1.heap.size ≤ k) q.p _ (if burnOk S = true then changeF { burnF S with files := S.files ++ [nFile] } (.create s.data.toList S.files.length) else { burnF S with files := S.files ++ [nFile] }) w') at HC
      clear hc hg z1 e0
      have HBO : Hid (burnOk S = true ∨ burnOk S = false) := Lib.hid (by cases burnOk S <;> simp)
      generalize hrv : (if burnOk S = true then (0 : Int) else 50) = rv at *
      have HRV := Lib.hid hrv
      clear hrv
      go_wp2_with (go_at_call 33; refine HC.out.mono ?_; rintro e w2 ⟨rfl, hF⟩; have HF := Lib.hid hF; clear hF)
      rw [HPO.out, HO.out]
      refine ⟨rfl, ?_⟩
      have hb1 : Below w1.heap.size w1 (w1.alloc (.cells #[.slice none 0 0, .int .i64 0] 66)) := (Below.refl _ _).alloc (Nat.le_refl _) _
      obtain ⟨q', hA, hp, hC⟩ := HF.out
      have hcg : Chg F w w2 := (Chg.of_below (S := F) (HL.out.trans (hb1.mono HL.out.size))).trans hC (fun k hk h => h.elim id (fun h => by have := HL.out.size; omega))
      have hmo : ∀ k, ((F k ∨ w1.heap.size ≤ k) ∨ (w1.alloc (.cells #[.slice none 0 0, .int .i64 0] 66)).heap.size ≤ k) → F k ∨ w.heap.size ≤ k := fun k hk => by
        have h1 := HL.out.size
        have h2 := hb1.size
        rcases hk with (hk | hk) | hk
        · exact .inl hk
        · right; omega
        · right; omega
      rcases HBO.out with hb | hb
      · rw [hb, if_pos rfl] at hA
        show FsTo F q.p w (if burnOk S = true then _ else _) w2
        rw [hb, if_pos rfl]
        exact ⟨q', hA.mono hmo, hp, hcg⟩
      · rw [hb, if_neg (by decide)] at hA
        show FsTo F q.p w (if burnOk S = true then _ else _) w2
        rw [hb, if_neg (by decide)]
        exact ⟨_, (hA.less (S := S) (T := burnF S) rfl HI.out.ids (fun c hc => okW_lt HI.out.ok c hc)).mono hmo, hp, hcg⟩
  · have q0 : (nm == 0) = false := by rw [beq_eq_false_iff_ne]; exact h0
    have q1 : (nm != 0) = true := by simp [h0]
    have HO : Hid (createF S s.data.toList = (nm, S)) := Lib.hid (by rw [HRN.out, if_pos h0])
    clear h0
    go_wp2
    rw [HPO.out, HO.out]
    exact ⟨rfl, q, HH.out.mono fun k hk => .inl hk, rfl, Chg.of_below HL.out⟩
end Go.Proofs.Ytmoaabjiokjjlaa
