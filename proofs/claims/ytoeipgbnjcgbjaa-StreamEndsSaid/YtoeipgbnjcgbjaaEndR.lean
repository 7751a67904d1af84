/- (*stream.End).Read. -/
import Derived.Test.YtoeipgbnjcgbjaaEnd6
namespace Go.Proofs.Ytoeipgbnjcgbjaa
open Go.RowKit
set_option linter.unusedVariables false

/-- What Read leaves. -/
def RdPost (g : Nat) (s : En) (vo vi : Value) (w : World) (e : Ending) (w' : World) : Prop :=
  ∃ A, e = .returned (.slice A (readS s).1.length (readS s).1.length) ∧ OwnS w' w.heap.size 5 1 (.slice A (readS s).1.length (readS s).1.length) (readS s).1.length ((readS s).1.map (Value.int .u8)) ∧ EnAt g w' (readS s).2 vo vi ∧ Chg (fun k => k = g) w w'
theorem read_tail {g : Nat} {s : En} {vo vi : Value} {w w1 w2 : World} {A' : Option Addr} {c' N : Nat} (h : EnAt g w s vo vi) (hc1 : w1.heap = w.heap) (ho : OwnS w2 w1.heap.size 5 1 (.slice A' N c') N (((readS s).1).map (Value.int .u8))) (hN : (readS s).1.length = N) (hb : Below w1.heap.size w1 w2) (hos : w1.os = w.os) (ht : w1.tape = w.tape) (hout : w1.output = w.output) :
    RdPost g s vo vi w (.returned (.slice A' N N)) (w2.setCell ⟨g, 11, none⟩ (.int .i64 s.inn.length)) := by
  subst hN
  have hb' : Below w.heap.size w w2 := by
    refine ⟨hb.os.trans hos, hb.tape.trans ht, hb.output.trans hout, by rw [← hc1]; exact hb.size, fun k hk => ?_⟩
    rw [hb.block k (by rw [hc1]; exact hk), hc1]
  rw [hc1] at ho
  refine ⟨A', rfl, (ho.clip).setLow h.blk _, (h.below hb').set 11 _ { s with read := s.inn.length } rfl rfl (enF_cases rfl rfl rfl rfl rfl rfl rfl rfl rfl rfl rfl rfl rfl rfl), (Chg.of_below (S := fun k => k = g) hb').setCell (.inl rfl) _⟩
set_option maxRecDepth 100000 in
set_option maxHeartbeats 2000000 in
theorem read_any (g : Nat) (s : En) (vo vi : Value) (w : World) (h : EnAt g w s vo vi) (hok : EnOk s) :
    Calls Try.prog 27 #[.pointer (some ⟨g, 0, none⟩)] w (RdPost g s vo vi w) := by
  obtain ⟨k, hk⟩ : ∃ k : Nat, s.read = k := ⟨s.read.toNat, by have := hok.read; omega⟩
  have hr := hok.read
  have hl := hok.innl
  have hrd : (readS s).1 = s.inn.drop k := by show s.inn.drop s.read.toNat = _; rw [hk]; rfl
  have hrl : (readS s).1.length = s.inn.length - k := by rw [hrd, List.length_drop]
  have HTail : ∀ (w1 w2 : World) (A' : Option Addr) (c' N : Nat), w1.heap = w.heap → OwnS w2 w1.heap.size 5 1 (.slice A' N c') N ((s.inn.drop k).map (Value.int .u8)) → s.inn.length - k = N → Below w1.heap.size w1 w2 → w1.os = w.os → w1.tape = w.tape → w1.output = w.output → RdPost g s vo vi w (.returned (.slice A' N N)) (w2.setCell ⟨g, 11, none⟩ (.int .i64 s.inn.length)) :=
    fun w1 w2 A' c' N h1 h2 h3 h4 h5 h6 h7 => read_tail h h1 (by rw [hrd]; exact h2) (by rw [hrl]; exact h3) h4 h5 h6 h7
  have HT := Lib.hid HTail
  have c10 := h.c10
  have c11 := h.c11
  rw [hk] at c11
  have hE := h
  have hoi := h.oi
  have hblk : g < w.drew.heap.size := h.blk
  rcases hoi.2 with ⟨rfl, hn⟩ | ⟨b, off, cap, cur, rfl, _, ⟨fr, hgg, _⟩, hnc, hcm, _⟩
  · have hk0 : k = 0 := by omega
    subst hk0
    have hx : s.inn = [] := List.eq_nil_of_length_eq_zero hn
    have hcl := fun W => clone_any none 0 0 [] W Ints.nil rfl (by decide) (fun _ => rfl)
    rw [hx] at HT
    simp only [List.drop_nil, List.length_nil] at HT
    clear hx hn hrd hrl hr hl hk hoi HTail
    have hS0 : ∀ wx : World, Below w.drew.heap.size w.drew wx → wx.cell? ⟨g, 10, none⟩ = some (.slice none 0 0) ∧ wx.cell? ⟨g, 11, none⟩ = some (.int .i64 0) := fun wx hb => ⟨(hb.cell (p := ⟨g, 10, none⟩) hblk).trans c10, (hb.cell (p := ⟨g, 11, none⟩) hblk).trans c11⟩
    have HS0 := Lib.hid hS0
    clear hS0
    go_enter Try.func27, Try.ntmps27
    go_wp2
    go_region_held3 (fun w' => w'.cell? ⟨g, 10, none⟩ = some (.slice none 0 0) ∧ w'.cell? ⟨g, 11, none⟩ = some (.int .i64 0)) (first | (with_reducible exact hS5) | go_keep) (first
      | (have hm := ho5; go_at_call 49; refine (clip_any A5 _ c5 w5 hcl5.1 hcl5.2).mono ?_; rintro e w6 ⟨rfl, rfl⟩)
      | (go_at_call 50; refine (hcl w.drew).mono ?_; rintro e w5 ⟨A5, c5, rfl, ho5, hb5⟩; have hcl5 := ho5.capLe; have hS5 := HS0.out w5 hb5))
    have k10 := hS5.1
    have k11 := hS5.2
    have f11 := (h.cel.drew.below hb5 h.blk).frozen 11
    clear hS5
    go_wp2
    go_ret
    exact HT.out w.drew w5 A5 c5 _ rfl ho5 (by omega) hb5 rfl rfl rfl
  · unfold maxLen at hcm
    by_cases hck : cap = k
    · obtain rfl : k = s.inn.length := by omega
      obtain rfl : cap = s.inn.length := by omega
      have hx : s.inn.drop s.inn.length = [] := List.drop_length
      rw [hx] at HT
      have hcl := clone_any (some ⟨b, off, none⟩) 0 0 [] w.drew (fun h => absurd h (by simp)) rfl (by decide) (fun h => rfl)
      have HN : Hid (s.inn.length - s.inn.length = 0) := Nat.sub_self _
      have hkc : (s.inn.length : Int) ≤ s.inn.length := Int.le_refl _
      clear hrd hrl hr hk hoi HTail hx hck hnc
      have hS0 : ∀ wx : World, Below w.drew.heap.size w.drew wx → wx.cell? ⟨g, 10, none⟩ = some (.slice (some ⟨b, off, none⟩) s.inn.length s.inn.length) ∧ wx.cell? ⟨g, 11, none⟩ = some (.int .i64 s.inn.length) := fun wx hb => ⟨(hb.cell (p := ⟨g, 10, none⟩) hblk).trans c10, (hb.cell (p := ⟨g, 11, none⟩) hblk).trans c11⟩
      have HS0 := Lib.hid hS0
      clear hS0
      go_enter Try.func27, Try.ntmps27
      go_wp2
      go_region_held3 (fun w' => w'.cell? ⟨g, 10, none⟩ = some (.slice (some ⟨b, off, none⟩) s.inn.length s.inn.length) ∧ w'.cell? ⟨g, 11, none⟩ = some (.int .i64 s.inn.length)) (first | (with_reducible exact hS5) | go_keep) (first
        | (have hm := ho5; go_at_call 49; refine (clip_any A5 _ c5 w5 hcl5.1 hcl5.2).mono ?_; rintro e w6 ⟨rfl, rfl⟩)
        | (go_at_call 50; refine hcl.mono ?_; rintro e w5 ⟨A5, c5, rfl, ho5, hb5⟩; have hcl5 := ho5.capLe; have hS5 := HS0.out w5 hb5))
      have k10 := hS5.1
      have k11 := hS5.2
      have f11 := (h.cel.drew.below hb5 h.blk).frozen 11
      clear hS5
      go_wp2
      go_ret
      exact HT.out w.drew w5 A5 c5 _ rfl ho5 HN.out hb5 rfl rfl rfl
    · have hI : ∀ W : World, W.heap = w.heap → Ints .u8 W (some ⟨b, off + k, none⟩) (s.inn.drop k) := fun W hW => ((OwnS.ints hoi).drop k).heap hW
      have hdl : (s.inn.drop k).length = s.inn.length - k := by rw [List.length_drop]
      have hcl := fun (W : World) (hW : W.heap = w.heap) => clone_any (some ⟨b, off + k, none⟩) (s.inn.length - k) (cap - k) (s.inn.drop k) W (hI W hW) hdl (by omega) (fun h => by cases h)
      have hcl := hcl w.drew rfl
      have hkn : (k : Int) ≤ s.inn.length := by omega
      have hkc : (k : Int) ≤ cap := by omega
      have hncI : (s.inn.length : Int) ≤ cap := by omega
      have hnl : s.inn.length ≤ 1048576 := hl
      have hkn' : k ≤ s.inn.length := by omega
      clear hrd hrl hr hl hk hoi HTail hdl hI
      have hS0 : ∀ wx : World, Below w.drew.heap.size w.drew wx → wx.cell? ⟨g, 10, none⟩ = some (.slice (some ⟨b, off, none⟩) s.inn.length cap) ∧ wx.cell? ⟨g, 11, none⟩ = some (.int .i64 k) := fun wx hb => ⟨(hb.cell (p := ⟨g, 10, none⟩) hblk).trans c10, (hb.cell (p := ⟨g, 11, none⟩) hblk).trans c11⟩
      have HS0 := Lib.hid hS0
      clear hS0
      go_enter Try.func27, Try.ntmps27
      go_wp2
      go_region_held3 (fun w' => w'.cell? ⟨g, 10, none⟩ = some (.slice (some ⟨b, off, none⟩) s.inn.length cap) ∧ w'.cell? ⟨g, 11, none⟩ = some (.int .i64 k)) (first | (with_reducible exact hS5) | go_keep) (first
        | (have hm := ho5; go_at_call 49; refine (clip_any A5 _ c5 w5 hcl5.1 hcl5.2).mono ?_; rintro e w6 ⟨rfl, rfl⟩)
        | (go_at_call 50; refine hcl.mono ?_; rintro e w5 ⟨A5, c5, rfl, ho5, hb5⟩; have hcl5 := ho5.capLe; have hS5 := HS0.out w5 hb5))
      have k10 := hS5.1
      have k11 := hS5.2
      have f11 := (h.cel.drew.below hb5 h.blk).frozen 11
      clear hS5
      go_wp2
      go_ret
      exact HT.out w.drew w5 A5 c5 _ rfl ho5 rfl hb5 rfl rfl rfl
end Go.Proofs.Ytoeipgbnjcgbjaa
