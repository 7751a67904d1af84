/- Bytes as a string, and back. -/
import Derived.Test.YtdlabapfcghfmaaGreatDoorSumMathB
import Derived.Laws.BytesArg
import Derived.Laws.IdiomStrings
namespace Go.Proofs.YtdlabapfcghfmaaGreatDoor
open Go.RowKit
set_option linter.unusedVariables false

theorem bytesOf_str (xs : List Int) (h : Bytes xs) : bytesOf (strOfNums xs) = xs := by
  unfold bytesOf
  rw [strOfNums_data, List.map_map]
  refine (List.map_congr_left (g := id) fun x hx => ?_).trans (List.map_id xs)
  have := h x hx
  simp only [Function.comp, id]
  rw [UInt8.toNat_ofNat', Nat.mod_eq_of_lt (by omega)]
  omega
theorem strOfNums_bytes (s : ByteArray) : strOfNums (bytesOf s) = s := by
  unfold strOfNums bytesOf
  rw [List.map_map]
  have : (s.data.toList.map ((fun n : Int => UInt8.ofNat n.toNat) ∘ fun b => ((b.toNat : Nat) : Int))) = s.data.toList := by
    refine (List.map_congr_left (g := id) fun x hx => ?_).trans (List.map_id _)
    simp
  rw [this]
theorem run_str_ints {P : Program} {w : World} (src dst e : TypeId) (hs : P.underlying src = some (.slice e)) (he : P.underlying e = some (.int .u8)) (hd : P.underlying dst = some .string) (A : Option Addr) (c : Nat) (xs : List Int) (h : Ints .u8 w A xs) :
    (convert src dst (.slice A xs.length c)).run P w = .ok (.string (strOfNums xs)) w := by
  by_cases hx : 0 < xs.length
  · obtain ⟨b, o, rfl, _, hc⟩ := h hx
    exact run_convert_bytes_arg w src e hs he b o xs.length c xs rfl (fun i hi => hc i hi) dst hd
  · have hn : xs = [] := List.length_eq_zero_iff.1 (by omega)
    subst hn
    cases A with
    | none => exact run_convert_bytes_nil w src e hs he _ c dst hd
    | some a => exact run_convert_bytes_back w src dst e a c [] hs he hd (fun j hj => by cases hj)
end Go.Proofs.YtdlabapfcghfmaaGreatDoor
