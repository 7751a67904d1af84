/- The stable sort: blocks of twenty, merged two by two. -/
import Derived.Test.YtdmggpngmlhboaaSrtE
namespace Go.Proofs.Ytdmggpngmlhboaa
open Go.RowKit
set_option linter.unusedVariables false
set_option linter.unusedSimpArgs false

theorem sym_ok : ∀ d, SymOk d
  | 0 => by
    intro g off cap N a m b p u v s W hd _ _ _ hm hb hu hv
    omega
  | d + 1 => by
    intro g off cap N a m b p u v s W hd hS hN ha hm hb hu hv hsu hsv hou hov hNb
    by_cases h1 : u.length = 1
    · obtain ⟨x, t, rfl, ht⟩ := cons_of h1 (by omega)
      obtain rfl : t = [] := List.eq_nil_of_length_eq_zero (by omega)
      exact symMerge_one g off cap N a m b p x v s W hS hN ha hm hb hsv (hou x (by simp)) hov hNb
    by_cases h2 : v.length = 1
    · obtain ⟨y, t, rfl, ht⟩ := cons_of h2 (by omega)
      obtain rfl : t = [] := List.eq_nil_of_length_eq_zero (by omega)
      exact symMerge_last g off cap N a m b p u y s W hS hN ha hm hb (by omega) hsu (hov y (by simp)) hou hNb
    · have hI : SymOk (b - a - 1) := fun g off cap N a' m' b' p u v s W hd' => sym_ok d g off cap N a' m' b' p u v s W (by omega)
      exact symMerge_step g off cap N a m b p u v s W hI hS hN ha hm hb (by omega) (by omega) hsu hsv hou hov hNb
theorem SrtAt.then {W w w' : World} {e : Ending} {g off cap : Nat} {L L' : List El} (h : SrtAt W g off cap L w) (hp : SrtPost g off cap L' w e w') : e = .returned (.tuple #[]) ∧ SrtAt W g off cap L' w' :=
  ⟨hp.1, h.1.trans hp.2.1 (fun _ _ h => h), hp.2.2⟩
set_option maxRecDepth 100000 in
set_option maxHeartbeats 16000000 in
theorem stable_any (g off cap N : Nat) (L : List El) (W : World) (hS : SRow W 76 2 encE g off cap L) (hN : L.length = N) (hok : ∀ x ∈ L, okE x) (hNb : N ≤ 140737488355328) :
    Calls Try.prog 66 #[.slice (some ⟨g, off, none⟩) N cap, .int .i64 N, .func (.func 32) #[] #[]] W (SrtPost g off cap (Srt.isort ltE L) W) := by
  have HS := Lib.hid (SrtAt.start hS)
  have HN := Lib.hid hN
  have HOK := Lib.hid hok
  clear hS hN hok
  go_enter Try.func66, Try.ntmps66
  go_wp2
  go_loopw [7, 8] (fun av bv wr => ∃ (A B : Nat) (d R dn : List El), av = .int .i64 A ∧ bv = .int .i64 B ∧ B = A + 20 ∧ L = d ++ R ∧ d.length = A ∧ dn.length = A ∧ A ≤ N ∧ (∀ T, Srt.lvl ltE 20 (d ++ T) = dn ++ Srt.lvl ltE 20 T) ∧ SrtAt W g off cap (dn ++ R) wr) (fun av _ _ => N - (intOf av).toNat)
  case atStart => exact ⟨0, 20, [], L, [], rfl, rfl, rfl, rfl, rfl, rfl, Nat.zero_le _, (fun T => by simp), HS.out⟩
  case round =>
    clear HS
    obtain ⟨A, B, d, R, dn, rfl, rfl, hB, hL, hd, hdn, hAN, hT, hAt⟩ := hrel
    have hR : A + R.length = N := by have := HN.out; rw [hL, List.length_append] at this; omega
    have hRo : ∀ x ∈ R, okE x := fun x hx => HOK.out x (by rw [hL]; exact List.mem_append_right _ hx)
    have HL := Lib.hid hL
    have HD := Lib.hid hd
    have HDN := Lib.hid hdn
    have HT := Lib.hid hT
    have HAt := Lib.hid hAt
    clear hL hd hdn hT hAt
    by_cases hlt : B ≤ N
    · obtain ⟨x, R2, rfl, h1, h2⟩ := split_at R 20 (by omega)
      have hc := insSort_any g off cap N A B dn x R2 wr (by have := HAt.out.2; simpa only [List.append_assoc] using this) (by have := HDN.out; simp only [List.length_append] at hR ⊢; omega) HDN.out (by omega) (fun z hz => hRo z (by simp [hz])) hNb
      have H1 := Lib.hid h1
      have HBB := Lib.hid hB
      have hAB : A < B := by omega
      clear h1 h2 hRo hR hB
      go_wp2_with (go_at_call 80; refine hc.mono ?_; intro e w5 hp; obtain ⟨rfl, hS5⟩ := HAt.out.then hp)
      go_roundw
      case rel =>
        refine ⟨B, B + 20, d ++ x, R2, dn ++ Srt.isort ltE x, rfl, by go_num, rfl, by rw [HL.out]; simp, by rw [List.length_append, HD.out, H1.out]; exact HBB.out.symm, by rw [List.length_append, HDN.out, Srt.isort_length, H1.out]; exact HBB.out.symm, hlt, fun T => ?_, hS5⟩
        rw [List.append_assoc, HT.out, Srt.lvl_cut _ _ (by decide) H1.out, List.append_assoc]
      case measure => simp [intOf]; omega
    · have hR20 : R.length ≤ 20 := by omega
      have hc := insSort_any g off cap N A N dn R [] wr (by have := HAt.out.2; rwa [List.append_nil]) (by have := HDN.out; simp only [List.length_append, List.length_nil]; omega) HDN.out hR hRo hNb
      have hlv : dn ++ Srt.isort ltE R ++ [] = Srt.lvl ltE 20 L := by rw [HL.out, HT.out, Srt.lvl_short (by decide) hR20, List.append_nil]
      have HLV := Lib.hid hlv
      clear hlv hRo hR hR20 HT HL HD hB
      go_wp2_with (go_at_call 80; refine hc.mono ?_; intro e w5 hp; obtain ⟨rfl, hS5⟩ := HAt.out.then hp)
      rw [HLV.out] at hS5
      have HS5 := Lib.hid hS5
      clear hS5 hc HLV HAt HDN hlt
      go_loopw [6] (fun bv wr => ∃ bs : Nat, bv = .int .i64 bs ∧ 0 < bs ∧ SrtAt W g off cap (Srt.lvl ltE bs L) wr) (fun bv _ => N - (intOf bv).toNat)
      case atStart => exact ⟨20, rfl, by decide, HS5.out⟩
      case round =>
        clear HS5
        obtain ⟨bs, rfl, hbs, hAt⟩ := hrel
        have HAt := Lib.hid hAt
        clear hAt
        by_cases hlt : bs < N
        · obtain ⟨b2, hb2⟩ : ∃ b2, b2 = 2 * bs := ⟨_, rfl⟩
          have f1 : (2 : Int) * (bs : Int) = (b2 : Int) := by omega
          have HB2 := Lib.hid hb2
          have hb2N : b2 ≤ 281474976710656 := by omega
          have hb20 : bs < b2 := by omega
          clear hb2
          go_wp2
          go_loopw [7, 8] (fun av bv wr => ∃ (A B : Nat) (d R dn : List El), av = .int .i64 A ∧ bv = .int .i64 B ∧ B = A + b2 ∧ L = d ++ R ∧ d.length = A ∧ dn.length = A ∧ A ≤ N ∧ (∀ T, Srt.lvl ltE b2 (d ++ T) = dn ++ Srt.lvl ltE b2 T) ∧ SrtAt W g off cap (dn ++ Srt.lvl ltE bs R) wr) (fun av _ _ => N - (intOf av).toNat)
          case atStart => exact ⟨0, b2, [], L, [], rfl, rfl, by omega, rfl, rfl, rfl, Nat.zero_le _, (fun T => by simp), HAt.out⟩
          case round =>
            clear HAt
            obtain ⟨A, B, d, R, dn, rfl, rfl, hB, hL, hd, hdn, hAN, hT, hAt⟩ := hrel
            have hR : A + R.length = N := by have := HN.out; rw [hL, List.length_append] at this; omega
            have hRo : ∀ x ∈ R, okE x := fun x hx => HOK.out x (by rw [hL]; exact List.mem_append_right _ hx)
            have HL := Lib.hid hL
            have HD := Lib.hid hd
            have HDN := Lib.hid hdn
            have HT := Lib.hid hT
            have HAt := Lib.hid hAt
            have hbb := HB2.out
            clear hL hd hdn hT hAt
            obtain ⟨m, hm⟩ : ∃ m, m = A + bs := ⟨_, rfl⟩
            have f2 : (A : Int) + (bs : Int) = (m : Int) := by omega
            have HMM := Lib.hid hm
            by_cases hlt2 : B ≤ N
            · obtain ⟨x, R1, rfl, h1, h2⟩ := split_at R bs (by omega)
              obtain ⟨y, R2, rfl, h3, h4⟩ := split_at R1 bs (by omega)
              have hlv : Srt.lvl ltE bs (x ++ (y ++ R2)) = Srt.isort ltE x ++ (Srt.isort ltE y ++ Srt.lvl ltE bs R2) := by rw [Srt.lvl_cut _ _ hbs h1, Srt.lvl_cut _ _ hbs h3]
              have hA2 : SrtAt W g off cap (dn ++ Srt.isort ltE x ++ Srt.isort ltE y ++ Srt.lvl ltE bs R2) wr := by have := HAt.out; rw [hlv] at this; simpa only [List.append_assoc] using this
              have hc := sym_ok (B - A) g off cap N A m B dn (Srt.isort ltE x) (Srt.isort ltE y) (Srt.lvl ltE bs R2) wr (Nat.le_refl _) hA2.2 (by have := HDN.out; simp only [List.length_append, Srt.isort_length, Srt.lvl_length] at hR ⊢; omega) HDN.out (by rw [Srt.isort_length]; omega) (by rw [Srt.isort_length]; omega) (by rw [Srt.isort_length]; omega) (by rw [Srt.isort_length]; omega) (Srt.isort_sorted swoE _) (Srt.isort_sorted swoE _) (fun z hz => hRo z (by simp [Srt.mem_isort.1 hz])) (fun z hz => hRo z (by simp [Srt.mem_isort.1 hz])) hNb
              rw [← Srt.isort_append swoE] at hc
              have H1 := Lib.hid h1
              have H3 := Lib.hid h3
              have HA2 := Lib.hid hA2
              have HBB := Lib.hid hB
              have hAB : A < B := by omega
              clear h1 h2 h3 h4 hRo hR hlv hA2 hm hbb hB
              go_wp2_with (go_at_call 81; refine hc.mono ?_; intro e w5 hp; obtain ⟨rfl, hS5⟩ := HA2.out.then hp)
              go_roundw
              case rel =>
                refine ⟨B, B + b2, d ++ (x ++ y), R2, dn ++ Srt.isort ltE (x ++ y), rfl, by go_num, rfl, by rw [HL.out]; simp, ?_, ?_, hlt2, fun T => ?_, hS5⟩
                · have := HD.out; have := H1.out; have := H3.out; have := HB2.out; have := HBB.out; simp only [List.length_append]; omega
                · have := HDN.out; have := H1.out; have := H3.out; have := HB2.out; have := HBB.out; simp only [List.length_append, Srt.isort_length]; omega
                · have := H1.out
                  have := H3.out
                  have := HB2.out
                  rw [List.append_assoc, HT.out, Srt.lvl_cut _ _ (by omega) (by rw [List.length_append]; omega), List.append_assoc]
              case measure => have := HBB.out; simp [intOf]; omega
            · by_cases hmn : m < N
              · obtain ⟨x, R1, rfl, h1, h2⟩ := split_at R bs (by omega)
                have hlv : Srt.lvl ltE bs (x ++ R1) = Srt.isort ltE x ++ Srt.isort ltE R1 := by rw [Srt.lvl_cut _ _ hbs h1, Srt.lvl_short hbs (by omega)]
                have hA2 : SrtAt W g off cap (dn ++ Srt.isort ltE x ++ Srt.isort ltE R1 ++ []) wr := by have := HAt.out; rw [hlv] at this; simpa only [List.append_assoc, List.append_nil] using this
                have hc := sym_ok (N - A) g off cap N A m N dn (Srt.isort ltE x) (Srt.isort ltE R1) [] wr (Nat.le_refl _) hA2.2 (by have := HDN.out; simp only [List.length_append, Srt.isort_length, List.length_nil] at hR ⊢; omega) HDN.out (by rw [Srt.isort_length]; omega) (by rw [Srt.isort_length]; omega) (by rw [Srt.isort_length]; omega) (by rw [Srt.isort_length]; omega) (Srt.isort_sorted swoE _) (Srt.isort_sorted swoE _) (fun z hz => hRo z (by simp [Srt.mem_isort.1 hz])) (fun z hz => hRo z (by simp [Srt.mem_isort.1 hz])) hNb
                rw [← Srt.isort_append swoE] at hc
                have hfin : dn ++ Srt.isort ltE (x ++ R1) ++ [] = Srt.lvl ltE b2 L := by rw [HL.out, HT.out, Srt.lvl_short (by omega) (by omega), List.append_nil]
                have HF := Lib.hid hfin
                have HA2 := Lib.hid hA2
                have g1 : (bs : Int) * 2 = (b2 : Int) := by omega
                clear h1 h2 hRo hR hlv hA2 hm hbb hfin f1 hB
                go_wp2_with (go_at_call 81; refine hc.mono ?_; intro e w5 hp; obtain ⟨rfl, hS5⟩ := HA2.out.then hp)
                go_roundw
                case rel => exact ⟨b2, rfl, by omega, by rw [← HF.out]; exact hS5⟩
                case measure => simp [intOf]; omega
              · have hfin : dn ++ Srt.lvl ltE bs R = Srt.lvl ltE b2 L := by rw [HL.out, HT.out, Srt.lvl_short (bs := b2) (by omega) (by omega), Srt.lvl_short (bs := bs) hbs (by omega)]
                have HF := Lib.hid hfin
                have g1 : (bs : Int) * 2 = (b2 : Int) := by omega
                clear hRo hR hm hbb hfin f1 hB
                go_wp2
                go_roundw
                case rel => exact ⟨b2, rfl, by omega, by rw [← HF.out]; exact HAt.out⟩
                case measure => simp [intOf]; omega
        · have hfin : Srt.lvl ltE bs L = Srt.isort ltE L := Srt.lvl_short hbs (by have := HN.out; omega)
          have HF := Lib.hid hfin
          clear hfin
          go_wp2
          go_end0
          have := HAt.out
          rw [HF.out] at this
          exact ⟨rfl, this.1, this.2⟩
set_option maxRecDepth 100000 in
theorem sortStable_any (g off cap N : Nat) (L : List El) (W : World) (hS : SRow W 76 2 encE g off cap L) (hN : L.length = N) (hok : ∀ x ∈ L, okE x) (hNb : N ≤ 140737488355328) :
    Calls Try.prog 33 #[.slice (some ⟨g, off, none⟩) N cap, .func (.func 32) #[] #[]] W (SrtPost g off cap (Srt.isort ltE L) W) := by
  have hc := stable_any g off cap N L W hS hN hok hNb
  have hcap := hS.capLe
  unfold maxLen at hcap
  have hNc : N ≤ cap := by rw [← hN]; exact hcap.1
  have hcm : cap ≤ 9223372036854775807 := hcap.2
  clear hS hN hok hcap
  go_enter Try.func33, Try.ntmps33
  go_wp2_with (go_at_call 66; refine hc.mono ?_; rintro e w5 ⟨rfl, hc5, hS5⟩)
  go_end0
  exact ⟨rfl, hc5, hS5⟩
end Go.Proofs.Ytdmggpngmlhboaa
