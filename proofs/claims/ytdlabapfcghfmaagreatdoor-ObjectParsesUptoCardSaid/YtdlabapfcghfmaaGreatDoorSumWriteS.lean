/- (*sum.Sum).Write of a SHA-1. -/
import Derived.Test.YtdlabapfcghfmaaGreatDoorSumWrite
namespace Go.Proofs.YtdlabapfcghfmaaGreatDoor
open Go.RowKit
set_option linter.unusedVariables false

def Bytes (xs : List Int) : Prop := ∀ x ∈ xs, 0 ≤ x ∧ x < 256
theorem fb_ok (n : Nat) : ∀ (h : H5) (r : List Int), h.ok → (fb n h r).ok := by
  induction n with
  | zero => exact fun h r hh => hh
  | succ n ih => exact fun h r hh => ih _ _ (mixH_ok h r)
theorem fb_succ (n : Nat) : ∀ (h : H5) (r : List Int), fb (n + 1) h r = mixH (fb n h r) (r.drop (64 * n)) := by
  induction n with
  | zero => intro h r; simp [fb]
  | succ n ih => intro h r; rw [fb, ih, fb, List.drop_drop]; congr 2; omega

theorem drop64 {w : World} {base : Nat} {e : TypeId} {n c : Nat} {A : Option Addr} {xs : List Value} (h : OwnS w base e 1 (.slice A n c) n xs) (hk : 64 ≤ n) :
    OwnS w base e 1 (.slice (if c = 64 then A else A.map fun x => ⟨x.block, x.off + 64, none⟩) (n - 64) (c - 64)) (n - 64) (xs.drop 64) := h.drop1 hk
theorem own64 (A : Option Addr) (n m c d : Nat) (p : Prop) [Decidable p] (k : Nat) : (Value.slice (if p then A else A.map fun x => ⟨x.block, x.off + k, none⟩) m d).ownBlock = (Value.slice A n c).ownBlock := by
  cases A with
  | none => split <;> rfl
  | some a => split <;> rfl
/-- What a Write leaves: the sum with its new rest, and of the old blocks only the sum's own and its rest's changed. -/
def WritePost (g : Nat) (w : World) (v : Value) (kind : Int) (h : H5) (rest : List Int) (len : Int) (tab : Nat → Int) (crc a b : Int) (e : Ending) (w' : World) : Prop :=
  e = .returned (.tuple #[]) ∧ ∃ v', SumRep g w' v' kind h rest len tab crc a b ∧ Chg (fun k => k = g ∨ v.ownBlock = some k) w w' ∧ (v'.ownBlock = v.ownBlock ∨ ∀ k, v'.ownBlock = some k → w.heap.size ≤ k)

set_option maxRecDepth 100000 in
set_option maxHeartbeats 4000000 in
theorem write_sha (g : Nat) (v : Value) (h : H5) (rest : List Int) (len : Int) (tab : Nat → Int) (crc a b : Int) (A : Option Addr) (n c : Nat) (xs : List Int) (w : World)
    (hs : SumRep g w v 1 h rest len tab crc a b) (hI : Ints .u8 w A xs) (hn : xs.length = n) (hb : Bytes xs) (hr : Bytes rest) (hh : h.ok) (hl0 : 0 ≤ len) (hl1 : len ≤ 1152921504606846976) (hsz : rest.length + n ≤ 140737488355000) :
    Calls Tryz.prog 26 #[.pointer (some ⟨g, 0, none⟩), .slice A n c] w (WritePost g w v 1 (fb ((rest ++ xs).length / 64) h (rest ++ xs)) ((rest ++ xs).drop (64 * ((rest ++ xs).length / 64))) (len + n) tab crc a b) := by
  subst hn
  obtain ⟨i0, hi, hz0, hz1, hz2⟩ := info_parts Tryz.info_u8
  obtain ⟨Av, cv, rfl⟩ := hs.own.shape
  have k0 := hs.c0
  have k7 := hs.c7
  have f7 := hs.cel.frozen 7
  have hs1 := hs.setLen (len + xs.length)
  have k6 := hs1.c6
  have hI1 : Ints .u8 (w.setCell ⟨g, 7, none⟩ (.int .u64 (len + xs.length))) A xs := ints_setFar hI (fun hx => hs.ints_far hI hx)
  go_enter Tryz.func26, Tryz.ntmps26
  go_wp2_with (at_builtin; refine wpList_append_S rfl (.tmp 28) (.tmp 29) 24 24 rfl i0 (.int .u8 0) 1 (.slice 5) Tryz.underlying24 Tryz.underlying24 (fun _ h => by cases h) hi hz0 hz1 hz2 rfl rfl rfl hs1.own (Src.ints hI1) ?_ ?_ ?_ ?_; (unfold maxLen; omega); omega; omega; intro A' c' w' ho hg hw; have hc1 := hs1.cel.grown hg hs1.far; have k6' : w'.cell? ⟨g, 6, none⟩ = some (.slice Av rest.length cv) := hc1.cell 6 (by decide); have f6' := hc1.frozen 6)
  have ho' : OwnS w' 0 5 1 (.slice A' (rest ++ xs).length c') (rest ++ xs).length ((rest ++ xs).map (Value.int .u8)) := by
    rw [List.length_append, List.map_append]; exact ho
  have hs2 := SumRep.setRest hc1 ho'
  have hch : Chg (fun k => k = g ∨ (Value.slice Av rest.length cv).ownBlock = some k) w (w'.setCell ⟨g, 6, none⟩ (.slice A' (rest ++ xs).length c')) :=
    ((((Chg.refl _ w).setCell (a := ⟨g, 7, none⟩) (.inl (.inl rfl)) _).trans (Chg.of_grown (S := fun k => (Value.slice Av rest.length cv).ownBlock = some k) hg (fun k hk => hk)) (fun _ _ h' => .inr h'))).setCell (.inl (.inl rfl)) _
  have hcond : (Value.slice A' (rest ++ xs).length c').ownBlock = (Value.slice Av rest.length cv).ownBlock ∨ ∀ k, (Value.slice A' (rest ++ xs).length c').ownBlock = some k → w.heap.size ≤ k := by
    rw [List.length_append]
    rcases hw with h' | h'
    · exact .inl h'
    · right; intro k hk; rw [h'] at hk; injection hk with hk; rw [← hk]; simp [World.setCell]
  have hDb : Bytes (rest ++ xs) := fun x hx => by rcases List.mem_append.1 hx with h' | h'; exact hr x h'; exact hb x h'
  have hDl : (rest ++ xs).length = rest.length + xs.length := List.length_append
  rw [← hDl] at hsz ⊢
  generalize hwv : (Value.slice Av rest.length cv).ownBlock = ow at *
  generalize hD : rest ++ xs = D at *
  generalize hw2 : w'.setCell ⟨g, 6, none⟩ (.slice A' D.length c') = w2 at *
  generalize len + (xs.length : Int) = ln at *
  clear hc1 ho ho' hg hw hs1 hI1 k6 k7 f7 k6' f6' hs k0 hi hz0 hz1 hz2 hw2 hI hb hr hDl hD
  have HWV := Lib.hid hwv
  clear hwv
  go_loopw [33] (fun _ wr => ∃ (i : Nat) (v' : Value), i ≤ D.length / 64 ∧ SumRep g wr v' 1 (fb i h D) (D.drop (64 * i)) ln tab crc a b ∧ Chg (fun k => k = g ∨ ow = some k) w wr ∧ (v'.ownBlock = ow ∨ ∀ k, v'.ownBlock = some k → w.heap.size ≤ k)) (fun _ wr => restLen g wr)
  case atStart => exact ⟨0, _, Nat.zero_le _, by simpa [fb] using hs2, hch, hcond⟩
  case round =>
    clear hs2 hch hcond
    obtain ⟨i, v', hi, hs, hch, hcond⟩ := hrel
    obtain ⟨Av', cv', rfl⟩ := hs.own.shape
    have hlr : (D.drop (64 * i)).length = D.length - 64 * i := List.length_drop
    have hfb := fb_succ i h D
    have hok := fb_ok i h D hh
    have hrb : Bytes (D.drop (64 * i)) := fun x hx => hDb x (List.mem_of_mem_drop hx)
    have hdd : (D.drop (64 * i)).drop 64 = D.drop (64 * (i + 1)) := by rw [List.drop_drop]; congr 1
    by_cases hlt : i < D.length / 64
    · have h64 : 64 ≤ (D.drop (64 * i)).length := by omega
      have hI := hs.own.ints
      have HFB := Lib.hid hfb
      have HDD := Lib.hid hdd
      have HM : Hid (restLen g wr = (D.drop (64 * i)).length) := by show _ = _; unfold restLen; rw [hs.c6]
      have HLR := Lib.hid hlr
      clear hfb hdd hlr
      generalize hr : D.drop (64 * i) = r at *
      generalize hfi : fb i h D = hi' at *
      have HR := Lib.hid hr
      have HFI := Lib.hid hfi
      clear hr hfi
      have k1 := hs.c1
      have k2 := hs.c2
      have k3 := hs.c3
      have k4 := hs.c4
      have k5 := hs.c5
      have k6 := hs.c6
      go_wp2
      go_region_with (go_at_call 52; refine (mix_any hi' Av' _ cv' r _ hok hI.drew rfl h64 hrb).mono ?_; rintro e w5 ⟨rfl, hb5⟩; have hs5 := (hs.drew).chg (Chg.of_below (S := fun _ => False) hb5) (fun h => h) (fun _ _ h => h); have q1 := hs5.c1; have q2 := hs5.c2; have q3 := hs5.c3; have q4 := hs5.c4; have q5 := hs5.c5; have z1 := hs5.cel.frozen 1; have z2 := hs5.cel.frozen 2; have z3 := hs5.cel.frozen 3; have z4 := hs5.cel.frozen 4; have z5 := hs5.cel.frozen 5; simp only [H5.vals])
      all_goals
        have hs6 := hs5.setH (mixH hi' r)
        have hch6 : Chg (fun k => k = g ∨ ow = some k) w (((((w5.setCell ⟨g, 1, none⟩ (.int .u32 (mixH hi' r).a)).setCell ⟨g, 2, none⟩ (.int .u32 (mixH hi' r).b)).setCell ⟨g, 3, none⟩ (.int .u32 (mixH hi' r).c)).setCell ⟨g, 4, none⟩ (.int .u32 (mixH hi' r).d)).setCell ⟨g, 5, none⟩ (.int .u32 (mixH hi' r).e)) :=
          (((((hch.drew.trans (Chg.of_below (S := fun _ => False) hb5) (fun _ _ h' => h'.elim)).setCell (.inl (.inl rfl)) _).setCell (.inl (.inl rfl)) _).setCell (.inl (.inl rfl)) _).setCell (.inl (.inl rfl)) _).setCell (.inl (.inl rfl)) _
        generalize hw6 : ((((w5.setCell ⟨g, 1, none⟩ (.int .u32 (mixH hi' r).a)).setCell ⟨g, 2, none⟩ (.int .u32 (mixH hi' r).b)).setCell ⟨g, 3, none⟩ (.int .u32 (mixH hi' r).c)).setCell ⟨g, 4, none⟩ (.int .u32 (mixH hi' r).d)).setCell ⟨g, 5, none⟩ (.int .u32 (mixH hi' r).e) = w6 at *
        clear hw6 q1 q2 q3 q4 q5 z1 z2 z3 z4 z5 hs5 hb5 k1 k2 k3 k4 k5 k6 hs hch hI
        have k6 := hs6.c6
        have f6 := hs6.cel.frozen 6
        have hcap := OwnS.cap hs6.own
        go_wp2
      all_goals
        go_roundw
        case rel =>
          have hd := drop64 hs6.own h64
          rw [← List.map_drop] at hd
          have hl : r.length - 64 = (r.drop 64).length := by simp
          rw [hl] at hd ⊢
          have hs7 := SumRep.setRest hs6.cel hd
          refine ⟨i + 1, .slice (if cv' = 64 then Av' else Av'.map fun x => ⟨x.block, x.off + 64, none⟩) (r.drop 64).length (cv' - 64), by omega, ?_, hch6.setCell (.inl (.inl rfl)) _, ?_⟩
          · rw [HFB.out, ← HDD.out]; exact hs7
          · rw [own64 Av' r.length _ cv']; exact hcond
        case measure =>
          rw [HM.out]
          have hc := hs6.cel.set 6 (.slice (if cv' = 64 then Av' else Av'.map fun x => ⟨x.block, x.off + 64, none⟩) (r.length - 64) (cv' - 64))
          have e : restLen g (w6.setCell ⟨g, 6, none⟩ (.slice (if cv' = 64 then Av' else Av'.map fun x => ⟨x.block, x.off + 64, none⟩) (r.length - 64) (cv' - 64))) = r.length - 64 := by
            unfold restLen
            rw [hc.cell 6 (by decide)]
            rfl
          rw [e]
          omega
    · obtain rfl : i = D.length / 64 := by omega
      have k6 := hs.c6
      have hl64 : (D.drop (64 * (D.length / 64))).length < 64 := by omega
      clear hfb hdd hlr
      go_wp2
      go_end0
      refine ⟨rfl, _, hs, ?_, ?_⟩
      · rw [HWV.out]; exact hch
      · rw [HWV.out]; exact hcond
end Go.Proofs.YtdlabapfcghfmaaGreatDoor
