/- (*sum.Sum).Sum of a SHA-1. -/
import Derived.Test.YtdlabapfcghfmaaGreatDoorSumAsk
namespace Go.Proofs.YtdlabapfcghfmaaGreatDoor
open Go.RowKit
set_option linter.unusedVariables false

def padN (L : Nat) : Nat := (119 - L % 64) % 64
theorem padN_le (L : Nat) : padN L ≤ 63 := by unfold padN; omega
theorem padN_lt (L k : Nat) (h : k < padN L) : ((L + 1 + k : Nat) : Int) % 64 ≠ 56 := by unfold padN at h; omega
theorem padN_eq (L : Nat) : (L + 1 + padN L) % 64 = 56 := by unfold padN; omega
def padTo (r : List Int) (k : Nat) : List Int := r ++ 128 :: List.replicate k 0
theorem padTo_len (r : List Int) (k : Nat) : (padTo r k).length = r.length + 1 + k := by unfold padTo; simp; omega
theorem padTo_succ (r : List Int) (k : Nat) : padTo r (k + 1) = padTo r k ++ [0] := by unfold padTo; rw [List.replicate_succ']; simp

def FourPost (w : World) (base : Nat) (v : Value) (k : Nat) (D : List Int) (n : Int) (en : Ending) (w' : World) : Prop :=
  ∃ A c, en = .returned (.slice A (k + 4) c) ∧ OwnS w' base 5 1 (.slice A (k + 4) c) (k + 4) ((D ++ be4 n).map (Value.int .u8)) ∧ w.grownBy w' v.ownBlock
theorem four_ints (A : Option Addr) (c k : Nat) (D : List Int) (base : Nat) (n : Int) (w : World) (hown : OwnS w base 5 1 (.slice A k c) k (D.map (Value.int .u8))) (h0 : 0 ≤ n) (h1 : n < 4294967296) (hk : k ≤ 140737488355000) (hb : base ≤ w.heap.size) :
    Calls Tryz.prog 55 #[.slice A k c, .int .u32 n] w (FourPost w base (.slice A k c) k D n) := by
  refine (four_any (.slice A k c) k (D.map (Value.int .u8)) base n w hown h0 h1 hk hb).mono ?_
  rintro e w5 ⟨A5, c5, rfl, ho5, hg5, hv5⟩
  refine ⟨A5, c5, rfl, ?_, hg5⟩
  rw [List.map_append]
  exact ho5
def hF (k : H5) (i : Nat) : Value := if i = 0 then .int .u32 k.a else if i = 1 then .int .u32 k.b else if i = 2 then .int .u32 k.c else if i = 3 then .int .u32 k.d else .int .u32 k.e
def H5.nth (k : H5) (i : Nat) : Int := if i = 0 then k.a else if i = 1 then k.b else if i = 2 then k.c else if i = 3 then k.d else k.e
theorem H5.nth_at (k : H5) (i : Nat) (hi : i < 5) : (#[Value.int .u32 k.a, .int .u32 k.b, .int .u32 k.c, .int .u32 k.d, .int .u32 k.e] : Array Value)[i]? = some (.int .u32 (H5.nth k i)) := by
  match i, hi with
  | 0, _ => rfl
  | 1, _ => rfl
  | 2, _ => rfl
  | 3, _ => rfl
  | 4, _ => rfl
theorem index5_0 (k : H5) (w : World) : (Instr.index 100 (.agg #[Value.int .u32 k.a, .int .u32 k.b, .int .u32 k.c, .int .u32 k.d, .int .u32 k.e]) (.int .i64 ((0 : Nat) : Int))).run Tryz.prog w = .ok (.int .u32 k.a) w := by kernel_rfl
theorem index5_1 (k : H5) (w : World) : (Instr.index 100 (.agg #[Value.int .u32 k.a, .int .u32 k.b, .int .u32 k.c, .int .u32 k.d, .int .u32 k.e]) (.int .i64 ((1 : Nat) : Int))).run Tryz.prog w = .ok (.int .u32 k.b) w := by kernel_rfl
theorem index5_2 (k : H5) (w : World) : (Instr.index 100 (.agg #[Value.int .u32 k.a, .int .u32 k.b, .int .u32 k.c, .int .u32 k.d, .int .u32 k.e]) (.int .i64 ((2 : Nat) : Int))).run Tryz.prog w = .ok (.int .u32 k.c) w := by kernel_rfl
theorem index5_3 (k : H5) (w : World) : (Instr.index 100 (.agg #[Value.int .u32 k.a, .int .u32 k.b, .int .u32 k.c, .int .u32 k.d, .int .u32 k.e]) (.int .i64 ((3 : Nat) : Int))).run Tryz.prog w = .ok (.int .u32 k.d) w := by kernel_rfl
theorem index5_4 (k : H5) (w : World) : (Instr.index 100 (.agg #[Value.int .u32 k.a, .int .u32 k.b, .int .u32 k.c, .int .u32 k.d, .int .u32 k.e]) (.int .i64 ((4 : Nat) : Int))).run Tryz.prog w = .ok (.int .u32 k.e) w := by kernel_rfl
theorem index5 (k : H5) (i : Nat) (hi : i < 5) (w : World) : (Instr.index 100 (.agg #[Value.int .u32 k.a, .int .u32 k.b, .int .u32 k.c, .int .u32 k.d, .int .u32 k.e]) (.int .i64 (i : Int))).run Tryz.prog w = .ok (.int .u32 (H5.nth k i)) w := by
  match i, hi with
  | 0, _ => exact index5_0 k w
  | 1, _ => exact index5_1 k w
  | 2, _ => exact index5_2 k w
  | 3, _ => exact index5_3 k w
  | 4, _ => exact index5_4 k w
theorem H5.nth_ok (k : H5) (h : k.ok) (i : Nat) : 0 ≤ H5.nth k i ∧ H5.nth k i < 4294967296 := by
  unfold H5.nth
  obtain ⟨h1, h2, h3, h4, h5⟩ := h
  repeat (split; assumption)
  assumption
def shaTo (k : H5) : Nat → List Int
  | 0 => []
  | n + 1 => shaTo k n ++ be4 (H5.nth k n)
theorem shaTo_len (k : H5) (n : Nat) : (shaTo k n).length = 4 * n := by
  induction n with
  | zero => rfl
  | succ n ih => rw [shaTo, List.length_append, ih]; simp [be4]; omega
theorem Cel.setF {w : World} {gh : Nat} {t : TypeId} {k0 : H5} (h : Cel w gh t 5 (hF k0)) (k : H5) :
    Cel (((((w.setCell ⟨gh, 0, none⟩ (.int .u32 k.a)).setCell ⟨gh, 1, none⟩ (.int .u32 k.b)).setCell ⟨gh, 2, none⟩ (.int .u32 k.c)).setCell ⟨gh, 3, none⟩ (.int .u32 k.d)).setCell ⟨gh, 4, none⟩ (.int .u32 k.e)) gh t 5 (hF k) :=
  (((((h.set 0 (.int .u32 k.a)).set 1 (.int .u32 k.b)).set 2 (.int .u32 k.c)).set 3 (.int .u32 k.d)).set 4 (.int .u32 k.e)).congr (fun j hj => by
    match j, hj with
    | 0, _ => rfl
    | 1, _ => rfl
    | 2, _ => rfl
    | 3, _ => rfl
    | 4, _ => rfl)
/-- The rest with its padding and its length behind it. -/
def shaMsg (rest : List Int) (len : Int) : List Int := padTo rest (padN rest.length) ++ be4 (IntKind.u32.wrap (len / 536870912)) ++ be4 (IntKind.u32.wrap (IntKind.u64.wrap (len * 8)))
def shaOut (h : H5) (rest : List Int) (len : Int) : List Int := shaTo (fb ((rest.length + 1 + padN rest.length + 8) / 64) h (shaMsg rest len)) 5
def lenOf : Value → Nat
  | .slice _ n _ => n
  | _ => 0
set_option maxRecDepth 100000 in
set_option maxHeartbeats 4000000 in
theorem ask_sha (g : Nat) (v : Value) (h : H5) (rest : List Int) (len : Int) (tab : Nat → Int) (crc a b : Int) (w : World)
    (hs : SumRep g w v 1 h rest len tab crc a b) (hok : h.ok) (hr : Bytes rest) (hl0 : 0 ≤ len) (hl1 : len ≤ 1152921504606846976) (hsz : rest.length ≤ 140737488351300) :
    Calls Tryz.prog 29 #[.pointer (some ⟨g, 0, none⟩)] w (AskPost w (shaOut h rest len)) := by
  obtain ⟨i0, hi, hz0, hz1, hz2⟩ := info_parts Tryz.info_u8
  obtain ⟨Av, cv, rfl⟩ := hs.own.shape
  have k0 := hs.c0
  have k6 := hs.c6
  have hI := hs.own.ints
  have z0 : 0 + rest.length = rest.length := Nat.zero_add _
  go_enter Tryz.func29, Tryz.ntmps29
  go_wp2_with (at_builtin; first
    | (refine wpList_append_S rfl (.const (.slice none 0 0)) (.tmp 38) 24 24 rfl i0 (.int .u8 0) 1 (.slice 5) Tryz.underlying24 Tryz.underlying24 (fun _ h => by cases h) hi hz0 hz1 hz2 rfl rfl rfl (OwnS.nil w w.heap.size 5 1) (Src.ints hI) ?_ ?_ ?_ ?_; (unfold maxLen; omega); omega; omega; intro A1 c1 w1 ho1 hg1 hw1; rw [Nat.zero_add, List.nil_append] at ho1; simp only [Nat.zero_add])
    | (refine wpList_append_S rfl (.tmp 39) (.tmp 40) 24 24 rfl i0 (.int .u8 0) 1 (.slice 5) Tryz.underlying24 Tryz.underlying24 (fun _ h => by cases h) hi hz0 hz1 hz2 rfl rfl rfl (ho1.alloc _) (Src.one_new (u := .int .u8 128) rfl) ?_ ?_ ?_ ?_; (unfold maxLen; omega); omega; (have := hg1.size; simp; omega); intro A2 c2 w2 ho2 hg2 hw2))
  have hp2 : OwnS w2 w.heap.size 5 1 (.slice A2 (padTo rest 0).length c2) (padTo rest 0).length ((padTo rest 0).map (Value.int .u8)) := by
    rw [padTo_len]; unfold padTo; rw [List.map_append]; exact ho2
  have hl2 : rest.length + 1 = (padTo rest 0).length := by rw [padTo_len]
  have hB2 : Below w.heap.size w w2 :=
    (((Below.refl _ _).grown hg1 (Nat.le_refl _) (fun k h => by cases h)).alloc hg1.size _).grown hg2 (by have := hg1.size; simp; omega) (fun k h => (ho1.lt k h).1)
  clear k0 k6 ho2 hg2 hw2 ho1 hg1 hw1
  rw [hl2]
  go_loopw [3] (fun p wr => ∃ (k : Nat) (A : Option Addr) (c : Nat), k ≤ padN rest.length ∧ p = .slice A (padTo rest k).length c ∧ OwnS wr w.heap.size 5 1 (.slice A (padTo rest k).length c) (padTo rest k).length ((padTo rest k).map (Value.int .u8)) ∧ Below w.heap.size w wr) (fun p _ => 140737488355327 - lenOf p)
  case atStart => exact ⟨0, A2, c2, Nat.zero_le _, rfl, hp2, hB2⟩
  case round =>
    clear hp2 hB2 hl2
    obtain ⟨k, A, c, hk, rfl, ho, hB⟩ := hrel
    have hpl := padTo_len rest k
    have hpn := padN_le rest.length
    by_cases hlt : k < padN rest.length
    · have hne : ((padTo rest k).length : Int) % 64 ≠ 56 := by rw [hpl]; exact padN_lt _ _ hlt
      have hd : decide (((padTo rest k).length : Int) % 64 = 56) = false := by simpa using hne
      go_wp2_with (at_builtin; refine wpList_append_S rfl (.tmp 46) (.tmp 47) 24 24 rfl i0 (.int .u8 0) 1 (.slice 5) Tryz.underlying24 Tryz.underlying24 (fun _ h => by cases h) hi hz0 hz1 hz2 rfl rfl rfl (ho.alloc _) (Src.one_new (u := .int .u8 0) rfl) ?_ ?_ ?_ ?_; (unfold maxLen; omega); omega; (have := hB.size; simp; omega); intro A2 c2 w2 ho2 hg2 hw2)
      go_roundw
      case rel =>
        have hB' := hB.size
        have hl1' := padTo_len rest (k + 1)
        have e : (padTo rest k).length + 1 = (padTo rest (k + 1)).length := by omega
        have e2 : (padTo rest k).map (Value.int .u8) ++ [Value.int .u8 0] = (padTo rest (k + 1)).map (Value.int .u8) := by rw [padTo_succ, List.map_append]; rfl
        rw [e, e2] at ho2
        rw [show rest.length + 1 + k + 1 = (padTo rest (k + 1)).length by omega]
        exact ⟨k + 1, A2, c2, by omega, rfl, ho2, (hB.alloc (by omega) _).grown hg2 (by simp; omega) (fun q h => (ho.lt q h).1)⟩
      case measure => simp only [lenOf]; omega
    · obtain rfl : k = padN rest.length := by omega
      have hmod := padN_eq rest.length
      rw [← hpl] at hmod
      have hlen : (padTo rest (padN rest.length)).length ≤ 140737488351370 := by omega
      have hDb : Bytes (padTo rest (padN rest.length)) := fun x hx => by
        unfold padTo at hx
        rcases List.mem_append.1 hx with h' | h'
        · exact hr x h'
        · rcases List.mem_cons.1 h' with rfl | h'
          · omega
          · rw [List.eq_of_mem_replicate h']; omega
      have hd : ((padTo rest (padN rest.length)).length : Int) % 64 = 56 := by omega
      clear hpl hpn hlt
      generalize hD : padTo rest (padN rest.length) = D at *
      have HD := Lib.hid hD
      clear hD
      have k7 := (hs.chg (Chg.of_below (S := fun _ => False) hB) (fun h => h) (fun _ _ h => h)).c7
      have hw32 : ∀ x, 0 ≤ IntKind.u32.wrap x ∧ IntKind.u32.wrap x < 4294967296 := fun x => by rw [IntKind.wrap_u32']; exact ⟨Int.emod_nonneg _ (by decide), Int.emod_lt_of_pos _ (by decide)⟩
      have hq1 : D.length ≤ 140737488355000 := by omega
      have hq2 : D.length + 4 ≤ 140737488355000 := by omega
      have hgb := hs.cel.blk
      have hs7 := hs.c7
      go_wp2
      go_region_held3 (fun w' => w'.cell? ⟨g, 7, none⟩ = some (.int .u64 len)) (first | exact hk5 | exact hk6 | go_keep) (first
        | (have hm := ho5; go_at_call 55; have hc := four_ints A5 c5 (D.length + 4) (D ++ be4 (IntKind.u32.wrap (len / 536870912))) w.heap.size (IntKind.u32.wrap (IntKind.u64.wrap (len * 8))) w5 ho5 (hw32 _).1 (hw32 _).2 hq2 hB5.size; refine hc.mono ?_; rintro e w6 ⟨A6, c6, rfl, ho6, hg6⟩; have hB6 := hB5.grown hg6 hB5.size (fun q h => (ho5.lt q h).1); have hk6 := (hB6.cell (p := ⟨g, 7, none⟩) hgb).trans hs7)
        | (go_at_call 55; have hc := four_ints A c D.length D w.heap.size (IntKind.u32.wrap (len / 536870912)) wr.drew ho.drew (hw32 _).1 (hw32 _).2 hq1 hB.size; refine hc.mono ?_; rintro e w5 ⟨A5, c5, rfl, ho5, hg5⟩; have hB5 := (hB.drew).grown hg5 hB.size (fun q h => (ho.lt q h).1); have hk5 := (hB5.cell (p := ⟨g, 7, none⟩) hgb).trans hs7))
      have hs6 := hs.chg (Chg.of_below (S := fun _ => False) hB6) (fun h => h) (fun _ _ h => h)
      have hEl : (D ++ be4 (IntKind.u32.wrap (len / 536870912)) ++ be4 (IntKind.u32.wrap (IntKind.u64.wrap (len * 8)))).length = D.length + 4 + 4 := by simp [be4]
      have hEb : Bytes (D ++ be4 (IntKind.u32.wrap (len / 536870912)) ++ be4 (IntKind.u32.wrap (IntKind.u64.wrap (len * 8)))) := by
        have hbe : ∀ x, Bytes (be4 (IntKind.u32.wrap x)) := fun x y hy => by
          have := hw32 x
          simp only [be4, List.mem_cons, List.not_mem_nil, or_false] at hy
          rcases hy with rfl | rfl | rfl | rfl <;> omega
        intro y hy
        rcases List.mem_append.1 hy with hy | hy
        · rcases List.mem_append.1 hy with hy | hy
          · exact hDb y hy
          · exact hbe _ y hy
        · exact hbe _ y hy
      rw [← hEl] at ho6 ⊢
      have hEm : (D ++ be4 (IntKind.u32.wrap (len / 536870912)) ++ be4 (IntKind.u32.wrap (IntKind.u64.wrap (len * 8)))).length = 64 * ((D.length + 8) / 64) := by omega
      have hE1 : (D ++ be4 (IntKind.u32.wrap (len / 536870912)) ++ be4 (IntKind.u32.wrap (IntKind.u64.wrap (len * 8)))).length ≤ 140737488351378 := by omega
      generalize hE : D ++ be4 (IntKind.u32.wrap (len / 536870912)) ++ be4 (IntKind.u32.wrap (IntKind.u64.wrap (len * 8))) = E at *
      have HD2 : Hid (D.length = rest.length + 1 + padN rest.length) := by show _ = _; rw [← HD.out, padTo_len]
      generalize hnb : (D.length + 8) / 64 = nb at *
      have HNB := Lib.hid hnb
      clear hnb
      have HE := Lib.hid hE
      clear hE hEl hmod hd hlen hq1 hq2 ho5 hg5 hB5 hg6 ho hB hDb hs7 hk k7 hk5 hk6 hc hw32
      have k1 := hs6.c1
      have k2 := hs6.c2
      have k3 := hs6.c3
      have k4 := hs6.c4
      have k5 := hs6.c5
      go_wp2
      have hcel : Cel (w6.alloc (.cells #[.int .u32 h.a, .int .u32 h.b, .int .u32 h.c, .int .u32 h.d, .int .u32 h.e] 100)) w6.heap.size 100 5 (hF h) :=
        Cel.new w6 _ #[.int .u32 h.a, .int .u32 h.b, .int .u32 h.c, .int .u32 h.d, .int .u32 h.e] (hF h) (fun i hi => by
          match i, hi with
          | 0, _ => rfl
          | 1, _ => rfl
          | 2, _ => rfl
          | 3, _ => rfl
          | 4, _ => rfl)
      have ho7 := ho6.alloc (.cells #[.int .u32 h.a, .int .u32 h.b, .int .u32 h.c, .int .u32 h.d, .int .u32 h.e] 100)
      have hB7 := hB6.alloc hB6.size (.cells #[.int .u32 h.a, .int .u32 h.b, .int .u32 h.c, .int .u32 h.d, .int .u32 h.e] 100)
      have hg6 : w.heap.size ≤ w6.heap.size := hB6.size
      clear k1 k2 k3 k4 k5 hs6 ho6 hB6 hs hI
      generalize w6.heap.size = gh at *
      generalize w6.alloc (.cells #[.int .u32 h.a, .int .u32 h.b, .int .u32 h.c, .int .u32 h.d, .int .u32 h.e] 100) = w7 at *
      go_loopw [3] (fun p wr => ∃ (i : Nat) (A : Option Addr) (c : Nat), i ≤ nb ∧ p = .slice A (E.drop (64 * i)).length c ∧ OwnS wr w.heap.size 5 1 (.slice A (E.drop (64 * i)).length c) (E.drop (64 * i)).length ((E.drop (64 * i)).map (Value.int .u8)) ∧ Cel wr gh 100 5 (hF (fb i h E)) ∧ Below w.heap.size w wr) (fun p _ => lenOf p)
      case atStart => exact ⟨0, A6, c6, Nat.zero_le _, rfl, ho7, hcel, hB7⟩
      case round =>
        clear ho7 hcel hB7
        obtain ⟨i, A8, c8, hi8, rfl, ho, hc, hB⟩ := hrel
        have hlr : (E.drop (64 * i)).length = 64 * nb - 64 * i := by rw [List.length_drop, hEm]
        have hok8 := fb_ok i h E hok
        have hrb : Bytes (E.drop (64 * i)) := fun x hx => hEb x (List.mem_of_mem_drop hx)
        have FS : Hid (fb (i + 1) h E = mixH (fb i h E) (E.drop (64 * i))) := fb_succ i h E
        have DS : Hid ((E.drop (64 * i)).drop 64 = E.drop (64 * (i + 1))) := by show _ = _; rw [List.drop_drop]; congr 1
        have k0 := hc.cell 0 (by decide)
        have k1 := hc.cell 1 (by decide)
        have k2 := hc.cell 2 (by decide)
        have k3 := hc.cell 3 (by decide)
        have k4 := hc.cell 4 (by decide)
        by_cases hlt : i < nb
        · have h64 : 64 ≤ (E.drop (64 * i)).length := by omega
          have hI8 := ho.ints
          have hcap := ho.cap
          have HLR := Lib.hid hlr
          clear hlr
          generalize E.drop (64 * i) = r at *
          generalize fb i h E = K at *
          go_wp2_with (go_at_call 52; refine (mix_any K A8 _ c8 r _ hok8 hI8 rfl h64 hrb).mono ?_; rintro e w5 ⟨rfl, hb5⟩; have hc5 := hc.chg (Chg.of_below (S := fun _ => False) hb5) (fun h => h); have q0 := hc5.cell 0 (by decide); have q1 := hc5.cell 1 (by decide); have q2 := hc5.cell 2 (by decide); have q3 := hc5.cell 3 (by decide); have q4 := hc5.cell 4 (by decide); have z0 := hc5.frozen 0; have z1 := hc5.frozen 1; have z2 := hc5.frozen 2; have z3 := hc5.frozen 3; have z4 := hc5.frozen 4; simp only [H5.vals])
          go_roundw
          case rel =>
            have hne := ho.ne_cel hc (by decide)
            have ho5 := ho.chg (Chg.of_below (S := fun _ => False) hb5) (fun _ _ h => h)
            have hd := drop64 (((((ho5.setFar (a := ⟨gh, 0, none⟩) hne (.int .u32 (mixH K r).a)).setFar (a := ⟨gh, 1, none⟩) hne (.int .u32 (mixH K r).b)).setFar (a := ⟨gh, 2, none⟩) hne (.int .u32 (mixH K r).c)).setFar (a := ⟨gh, 3, none⟩) hne (.int .u32 (mixH K r).d)).setFar (a := ⟨gh, 4, none⟩) hne (.int .u32 (mixH K r).e)) h64
            rw [← List.map_drop] at hd
            have hl : r.length - 64 = (r.drop 64).length := by simp
            rw [hl, DS.out] at hd
            rw [hl, DS.out]
            have hc6 := Cel.setF hc5 (mixH K r)
            rw [← FS.out] at hc6
            rw [← FS.out] at hd ⊢
            exact ⟨i + 1, _, _, by omega, rfl, hd, hc6, (((((hB.trans (hb5.mono hB.size)).setCell hg6 _).setCell hg6 _).setCell hg6 _).setCell hg6 _).setCell hg6 _⟩
          case measure => simp only [lenOf]; omega
        · have hin : i = nb := by omega
          rw [← hin] at HNB
          have hlz : (E.drop (64 * i)).length = 0 := by omega
          clear hin hlr ho hEm hE1
          generalize (E.drop (64 * i)).length = dl at *
          subst hlz
          have hmk : ∀ w : World, (Instr.makeSlice 24 (.int .i64 0) (.int .i64 20)).run Tryz.prog w = .ok (.slice (some ⟨w.heap.size, 0, none⟩) 0 20) (w.alloc (.cells (madeCells #[.int .u8 0] 20) 5)) := make_bytes 20 (by omega)
          generalize hK : fb i h E = K at *
          have HK := Lib.hid hK
          clear hK hlt
          have ha := hc.alloc (.cells (madeCells #[.int .u8 0] 20) 5)
          have m0 : (wr.alloc (.cells (madeCells #[.int .u8 0] 20) 5)).cell? ⟨gh, 0, none⟩ = some (.int .u32 K.a) := ha.cell 0 (by decide)
          have m1 : (wr.alloc (.cells (madeCells #[.int .u8 0] 20) 5)).cell? ⟨gh, 1, none⟩ = some (.int .u32 K.b) := ha.cell 1 (by decide)
          have m2 : (wr.alloc (.cells (madeCells #[.int .u8 0] 20) 5)).cell? ⟨gh, 2, none⟩ = some (.int .u32 K.c) := ha.cell 2 (by decide)
          have m3 : (wr.alloc (.cells (madeCells #[.int .u8 0] 20) 5)).cell? ⟨gh, 3, none⟩ = some (.int .u32 K.d) := ha.cell 3 (by decide)
          have m4 : (wr.alloc (.cells (madeCells #[.int .u8 0] 20) 5)).cell? ⟨gh, 4, none⟩ = some (.int .u32 K.e) := ha.cell 4 (by decide)
          clear k0 k1 k2 k3 k4
          go_wp2
          have hoE : OwnS (wr.alloc (.cells (madeCells #[.int .u8 0] 20) 5)) w.heap.size 5 1 (.slice (some ⟨wr.heap.size, 0, none⟩) 0 20) 0 [] := OwnS.empty hB.size (heap_alloc_new wr _) (by decide) (by simp [madeCells])
          have hBE := hB.alloc hB.size (.cells (madeCells #[.int .u8 0] 20) 5)
          clear m0 m1 m2 m3 m4 ha hB hc
          generalize wr.alloc (.cells (madeCells #[.int .u8 0] 20) 5) = w9 at *
          go_loopw [5, 78] (fun out i wr => ∃ (k : Nat) (A : Option Addr) (c : Nat), k ≤ 5 ∧ i = .int .i64 k ∧ out = .slice A (4 * k) c ∧ OwnS wr w.heap.size 5 1 (.slice A (4 * k) c) (4 * k) ((shaTo K k).map (Value.int .u8)) ∧ Below w.heap.size w wr) (fun _ i _ => 5 - (intOf i).toNat)
          case atStart => exact ⟨0, _, _, by omega, rfl, rfl, hoE, hBE⟩
          case round =>
            clear hoE hBE
            obtain ⟨k, A9, c9, hk9, rfl, rfl, ho, hB⟩ := hrel
            by_cases hlt : k < 5
            · have hx := index5 K k hlt
              have hx1 := H5.nth_ok K hok8 k
              have HS : Hid (shaTo K (k + 1) = shaTo K k ++ be4 (H5.nth K k)) := rfl
              generalize H5.nth K k = x at *
              generalize shaTo K k = l at *
              go_wp2_with (go_at_call 55; refine (four_ints A9 c9 (4 * k) l w.heap.size x wr ho hx1.1 hx1.2 (by omega) hB.size).mono ?_; rintro e w5 ⟨A5, c5, rfl, ho5, hg5⟩)
              go_roundw
              case rel =>
                refine ⟨k + 1, A5, c5, by omega, by go_num, rfl, ?_, hB.grown hg5 hB.size (fun q h => (ho.lt q h).1)⟩
                rw [HS.out]
                exact ho5
              case measure => simp [intOf]; omega
            · obtain rfl : k = 5 := by omega
              go_wp2
              go_ret
              have e : shaTo K 5 = shaOut h rest len := by unfold shaOut shaMsg; rw [HD.out, HE.out, ← HD2.out, HNB.out, HK.out]
              have e2 : 4 * 5 = (shaOut h rest len).length := by rw [← e, shaTo_len]
              rw [e2, e] at ho
              rw [e2]
              exact ⟨_, _, rfl, ho, hB⟩
end Go.Proofs.YtdlabapfcghfmaaGreatDoor
