/- The closure of FsRenames: a file is written beside, synced, renamed. -/
import Derived.Test.YtmoaabjiokjjlaaFsS
import Derived.Test.YtmoaabjiokjjlaaFsRenP
namespace Go.Proofs.Ytmoaabjiokjjlaa
open Go.RowKit Go.Maps
set_option linter.unusedVariables false
set_option linter.unusedSimpArgs false

theorem seqF_inv {N M : Nat} {r : Int × Fs} {k : Fs → Int × Fs} (h : Inv N M r.2) (hk : Inv N M (k r.2).2) : Inv N M (seqF r k).2 := by
  unfold seqF
  split
  · exact hk
  · exact h
theorem put_inv {N M : Nat} {S : Fs} (h : Inv N M S) (b : List Int) : Inv (N + 2) M (putF S b).2 := by
  unfold putF
  have h1 := h.create tmpN
  have h2 := seqF_inv (k := fun S => appendF S tmpN b) h1 (h1.append tmpN b)
  have h3 := seqF_inv (k := fun S => syncF S tmpN) h2 (h2.sync tmpN)
  have h4 := seqF_inv (k := fun S => renameF S tmpN itN) (h3.mono (Nat.le_succ _)) (h3.rename tmpN itN)
  exact seqF_inv (k := syncNamesF) h4 h4.syncNames
set_option maxRecDepth 100000 in
set_option maxHeartbeats 4000000 in
theorem put_any (F : Nat → Prop) (p fc : Nat) (S : Fs) (N : Nat) (A : Option Addr) (n c : Nat) (b : List Int) (w : World) (h : FsIn F p w S) (hI : Inv N 16777216 S) (hN : N ≤ 1000) (hF : ∀ k, w.heap.size ≤ k → F k) (hfc : ¬ F fc)
    (hc : Cel w fc 23 1 (fun _ => ptrV p)) (hb : Ints .u8 w A b) (hn : b.length = n) (hnb : n ≤ 9223372036854775807) (hA : 0 < b.length → ∀ b o, A = some ⟨b, o, none⟩ → ¬ F b) :
    Calls Try.prog 19 #[.slice A n c, .pointer (some ⟨fc, 0, none⟩)] w (InPost F p (putF S b) w) := by
  have HPO : Hid (∀ e W, InPost F p (putF S b) w e W = (e = .returned (.int .i64 (putF S b).1) ∧ FsIn F p W (putF S b).2 ∧ Chg F w W)) := Lib.hid (fun _ _ => rfl)
  generalize InPost F p (putF S b) w = POST at *
  have HPF : Hid (putF S b = seqF (seqF (seqF (seqF (createF S tmpN) fun S => appendF S tmpN b) fun S => syncF S tmpN) fun S => renameF S tmpN itN) syncNamesF) := Lib.hid rfl
  have HFF := Lib.hid hF
  have HN := Lib.hid hn
  have HNB := Lib.hid hnb
  have HNF := Lib.hid hA
  have HFC := Lib.hid hfc
  have HCE := Lib.hid hc
  have HBI := Lib.hid hb
  have C1 := Lib.hid (create_in h hI (by omega) hF ⟨#[116, 109, 112]⟩ (by decide))
  have HI1 := Lib.hid (hI.create tmpN)
  have k0 : w.cell? ⟨fc, 0, none⟩ = some (.pointer (some ⟨p, 0, none⟩)) := hc.cell 0 (by decide)
  unfold InPost ptrV at C1
  change Hid (Calls _ _ _ _ fun e W' => e = .returned (.int .i64 (createF S tmpN).1) ∧ FsIn F p W' (createF S tmpN).2 ∧ Chg _ _ W') at C1
  generalize createF S tmpN = r1 at *
  clear h hI hF hfc hc hb hn hnb hA
  go_enter Try.func19, Try.ntmps19
  go_wp2_with fail
  refine C1.out.mono ?_
  rintro e w1 ⟨rfl, h1, hc1⟩
  have HA1 := Lib.hid h1
  have HC1 := Lib.hid hc1
  clear h1 hc1 C1 k0
  have HCL1 := Lib.hid (HCE.out.chg HC1.out HFC.out)
  have HFS : Hid (∀ k, w1.heap.size ≤ k → F k) := Lib.hid (fun k hk => HFF.out k (Nat.le_trans HC1.out.size hk))
  have HBI1 := Lib.hid (HBI.out.chg0 HC1.out HNF.out)
  have k1 : w1.cell? ⟨fc, 0, none⟩ = some (.pointer (some ⟨p, 0, none⟩)) := HCL1.out.cell 0 (by decide)
  have C2 := Lib.hid (show Calls _ _ _ _ _ from (fun (h : FsIn F p w1 r1.2) (hi : Ints .u8 w1 A b) => append_in h HI1.out (by omega) HFS.out ⟨#[116, 109, 112]⟩ (by decide) A n c b hi HN.out HNB.out HNF.out) HA1.out HBI1.out)
  unfold InPost ptrV at C2
  have HI2 : Hid (Inv (N + 1) 16777216 (seqF r1 fun S => appendF S tmpN b).2) := Lib.hid (seqF_inv HI1.out (HI1.out.append tmpN b))
  have HQ2 : Hid (seqF r1 (fun S => appendF S tmpN b) = if r1.1 = 0 then appendF r1.2 tmpN b else r1) := Lib.hid rfl
  change Hid (Calls _ _ _ _ fun e W' => e = .returned (.int .i64 (appendF r1.2 tmpN b).1) ∧ FsIn F p W' (appendF r1.2 tmpN b).2 ∧ Chg _ _ W') at C2
  generalize seqF r1 (fun S => appendF S tmpN b) = r2 at *
  generalize appendF r1.2 tmpN b = s2 at *
  go_upto_if 8 with (fail)
  go_cut [4] (fun v wx => v = .int .i64 r2.1 ∧ FsIn F p wx r2.2 ∧ Chg F w wx)
  case first => as_aux_lemma =>
    by_cases h0 : r1.1 = 0
    · have d0 : (r1.1 == 0) = true := by rw [h0]; rfl
      have HR : Hid (r2 = s2) := Lib.hid (by rw [HQ2.out, if_pos h0])
      clear h0
      go_wp2_with (go_at_call 11; refine C2.out.mono ?_; rintro e w2 ⟨rfl, h2, hc2⟩)
      go_meet
      rw [HR.out]
      exact ⟨rfl, h2, HC1.out.trans hc2 (fun _ _ h => h)⟩
    · have d0 : (r1.1 == 0) = false := by rw [beq_eq_false_iff_ne]; exact h0
      have HR : Hid (r2 = r1) := Lib.hid (by rw [HQ2.out, if_neg h0])
      clear h0
      go_wp2
      go_meet
      rw [HR.out]
      exact ⟨rfl, HA1.out, HC1.out⟩
  case rest =>
    obtain ⟨rfl, h2, hc2⟩ := hcut
    generalize wc = w2 at *
    have HA2 := Lib.hid h2
    have HC2 := Lib.hid hc2
    clear h2 hc2 k1 C2 HA1 HC1 HBI1 HCL1 HFS
    have HCL2 := Lib.hid (HCE.out.chg HC2.out HFC.out)
    have HFS : Hid (∀ k, w2.heap.size ≤ k → F k) := Lib.hid (fun k hk => HFF.out k (Nat.le_trans HC2.out.size hk))
    have HBI2 := Lib.hid (HBI.out.chg0 HC2.out HNF.out)
    have k2 : w2.cell? ⟨fc, 0, none⟩ = some (.pointer (some ⟨p, 0, none⟩)) := HCL2.out.cell 0 (by decide)
    have C3 := Lib.hid (show Calls _ _ _ _ _ from (fun (h : FsIn F p w2 r2.2) (hi : Ints .u8 w2 A b) => sync_in h HI2.out HFS.out ⟨#[116, 109, 112]⟩ (by decide)) HA2.out HBI2.out)
    unfold InPost ptrV at C3
    have HI3 : Hid (Inv (N + 1) 16777216 (seqF r2 fun S => syncF S tmpN).2) := Lib.hid (seqF_inv HI2.out (HI2.out.sync tmpN))
    have HQ3 : Hid (seqF r2 (fun S => syncF S tmpN) = if r2.1 = 0 then syncF r2.2 tmpN else r2) := Lib.hid rfl
    change Hid (Calls _ _ _ _ fun e W' => e = .returned (.int .i64 (syncF r2.2 tmpN).1) ∧ FsIn F p W' (syncF r2.2 tmpN).2 ∧ Chg _ _ W') at C3
    generalize seqF r2 (fun S => syncF S tmpN) = r3 at *
    generalize syncF r2.2 tmpN = s3 at *
    go_upto_if 13 with (fail)
    go_cut [4] (fun v wx => v = .int .i64 r3.1 ∧ FsIn F p wx r3.2 ∧ Chg F w wx)
    case first => as_aux_lemma =>
      by_cases h0 : r2.1 = 0
      · have d0 : (r2.1 == 0) = true := by rw [h0]; rfl
        have HR : Hid (r3 = s3) := Lib.hid (by rw [HQ3.out, if_pos h0])
        clear h0
        go_wp2_with (go_at_call 20; refine C3.out.mono ?_; rintro e w3 ⟨rfl, h2, hc2⟩)
        go_meet
        rw [HR.out]
        exact ⟨rfl, h2, HC2.out.trans hc2 (fun _ _ h => h)⟩
      · have d0 : (r2.1 == 0) = false := by rw [beq_eq_false_iff_ne]; exact h0
        have HR : Hid (r3 = r2) := Lib.hid (by rw [HQ3.out, if_neg h0])
        clear h0
        go_wp2
        go_meet
        rw [HR.out]
        exact ⟨rfl, HA2.out, HC2.out⟩
    case rest =>
      obtain ⟨rfl, h2, hc2⟩ := hcut
      generalize wc = w3 at *
      have HA3 := Lib.hid h2
      have HC3 := Lib.hid hc2
      clear h2 hc2 k2 C3 HA2 HC2 HBI2 HCL2 HFS
      have HCL3 := Lib.hid (HCE.out.chg HC3.out HFC.out)
      have HFS : Hid (∀ k, w3.heap.size ≤ k → F k) := Lib.hid (fun k hk => HFF.out k (Nat.le_trans HC3.out.size hk))
      have HBI3 := Lib.hid (HBI.out.chg0 HC3.out HNF.out)
      have k3 : w3.cell? ⟨fc, 0, none⟩ = some (.pointer (some ⟨p, 0, none⟩)) := HCL3.out.cell 0 (by decide)
      have C4 := Lib.hid (show Calls _ _ _ _ _ from (fun (h : FsIn F p w3 r3.2) (hi : Ints .u8 w3 A b) => rename_in h HI3.out (by omega) HFS.out ⟨#[116, 109, 112]⟩ ⟨#[105, 116]⟩ (by decide) (by decide)) HA3.out HBI3.out)
      unfold InPost ptrV at C4
      have HI4 : Hid (Inv (N + 2) 16777216 (seqF r3 fun S => renameF S tmpN itN).2) := Lib.hid (seqF_inv (HI3.out.mono (by omega)) (HI3.out.rename tmpN itN))
      have HQ4 : Hid (seqF r3 (fun S => renameF S tmpN itN) = if r3.1 = 0 then renameF r3.2 tmpN itN else r3) := Lib.hid rfl
      change Hid (Calls _ _ _ _ fun e W' => e = .returned (.int .i64 (renameF r3.2 tmpN itN).1) ∧ FsIn F p W' (renameF r3.2 tmpN itN).2 ∧ Chg _ _ W') at C4
      generalize seqF r3 (fun S => renameF S tmpN itN) = r4 at *
      generalize renameF r3.2 tmpN itN = s4 at *
      go_upto_if 17 with (fail)
      go_cut [4] (fun v wx => v = .int .i64 r4.1 ∧ FsIn F p wx r4.2 ∧ Chg F w wx)
      case first => as_aux_lemma =>
        by_cases h0 : r3.1 = 0
        · have d0 : (r3.1 == 0) = true := by rw [h0]; rfl
          have HR : Hid (r4 = s4) := Lib.hid (by rw [HQ4.out, if_pos h0])
          clear h0
          go_wp2_with (go_at_call 17; refine C4.out.mono ?_; rintro e w4 ⟨rfl, h2, hc2⟩)
          go_meet
          rw [HR.out]
          exact ⟨rfl, h2, HC3.out.trans hc2 (fun _ _ h => h)⟩
        · have d0 : (r3.1 == 0) = false := by rw [beq_eq_false_iff_ne]; exact h0
          have HR : Hid (r4 = r3) := Lib.hid (by rw [HQ4.out, if_neg h0])
          clear h0
          go_wp2
          go_meet
          rw [HR.out]
          exact ⟨rfl, HA3.out, HC3.out⟩
      case rest =>
        obtain ⟨rfl, h2, hc2⟩ := hcut
        generalize wc = w4 at *
        have HA4 := Lib.hid h2
        have HC4 := Lib.hid hc2
        clear h2 hc2 k3 C4 HA3 HC3 HBI3 HCL3 HFS
        have HCL4 := Lib.hid (HCE.out.chg HC4.out HFC.out)
        have HFS : Hid (∀ k, w4.heap.size ≤ k → F k) := Lib.hid (fun k hk => HFF.out k (Nat.le_trans HC4.out.size hk))
        have HBI4 := Lib.hid (HBI.out.chg0 HC4.out HNF.out)
        have k4 : w4.cell? ⟨fc, 0, none⟩ = some (.pointer (some ⟨p, 0, none⟩)) := HCL4.out.cell 0 (by decide)
        have C5 := Lib.hid (show Calls _ _ _ _ _ from (fun (h : FsIn F p w4 r4.2) (hi : Ints .u8 w4 A b) => syncNames_in h HI4.out HFS.out) HA4.out HBI4.out)
        unfold InPost ptrV at C5
        have HI5 : Hid (Inv (N + 2) 16777216 (seqF r4 fun S => syncNamesF S).2) := Lib.hid (seqF_inv HI4.out (HI4.out.syncNames))
        have HQ5 : Hid (seqF r4 (fun S => syncNamesF S) = if r4.1 = 0 then syncNamesF r4.2 else r4) := Lib.hid rfl
        change Hid (Calls _ _ _ _ fun e W' => e = .returned (.int .i64 (syncNamesF r4.2).1) ∧ FsIn F p W' (syncNamesF r4.2).2 ∧ Chg _ _ W') at C5
        generalize seqF r4 (fun S => syncNamesF S) = r5 at *
        generalize syncNamesF r4.2 = s5 at *
        go_upto_if 21 with (fail)
        go_cut [4] (fun v wx => v = .int .i64 r5.1 ∧ FsIn F p wx r5.2 ∧ Chg F w wx)
        case first => as_aux_lemma =>
          by_cases h0 : r4.1 = 0
          · have d0 : (r4.1 == 0) = true := by rw [h0]; rfl
            have HR : Hid (r5 = s5) := Lib.hid (by rw [HQ5.out, if_pos h0])
            clear h0
            go_wp2_with (go_at_call 21; refine C5.out.mono ?_; rintro e w5 ⟨rfl, h2, hc2⟩)
            go_meet
            rw [HR.out]
            exact ⟨rfl, h2, HC4.out.trans hc2 (fun _ _ h => h)⟩
          · have d0 : (r4.1 == 0) = false := by rw [beq_eq_false_iff_ne]; exact h0
            have HR : Hid (r5 = r4) := Lib.hid (by rw [HQ5.out, if_neg h0])
            clear h0
            go_wp2
            go_meet
            rw [HR.out]
            exact ⟨rfl, HA4.out, HC4.out⟩
        case rest =>
          obtain ⟨rfl, h2, hc2⟩ := hcut
          generalize wc = w5 at *
          have HA5 := Lib.hid h2
          have HC5 := Lib.hid hc2
          clear h2 hc2 k4 C5 HA4 HC4 HBI4 HCL4 HFS
          go_wp2
          rw [HPO.out, HPF.out]
          exact ⟨rfl, HA5.out, HC5.out⟩
end Go.Proofs.Ytmoaabjiokjjlaa
