/- Inflate in plain words: what a row of blocks makes. -/
import Derived.Test.YtoeipgbnjcgbjaaBits1
import Derived.Test.YtoeipgbnjcgbjaaHuffComp
namespace Go.Proofs.Ytoeipgbnjcgbjaa
open Go.RowKit
set_option linter.unusedVariables false

/-- n bits, if so many are there. -/
def tk (bs : List Int) (p n : Nat) : Option Int := if p + n ≤ 8 * bs.length then some (takeN bs p n) else none
/-- n bytes as they are, from a whole byte's place on: the error, the place, what was made. -/
def rawB (bs : List Int) (most : Nat) : Nat → Nat → List Int → Int × Nat × List Int
  | 0, p, out => (0, p, out)
  | n + 1, p, out => if 8 * bs.length < p + 8 then (4, p, out) else if most ≤ out.length then (5, p, out) else rawB bs most n (p + 8) (out ++ [bs.getD (p / 8) 0])
def upto8 (p : Nat) : Nat := (p + 7) / 8 * 8
def storedM (bs : List Int) (most p : Nat) (out : List Int) : Int × Nat × List Int :=
  if 8 * bs.length < upto8 p + 32 then (4, upto8 p, out)
  else if bs.getD (upto8 p / 8) 0 = 255 - bs.getD (upto8 p / 8 + 2) 0 ∧ bs.getD (upto8 p / 8 + 1) 0 = 255 - bs.getD (upto8 p / 8 + 3) 0 then rawB bs most (bs.getD (upto8 p / 8) 0 + 256 * bs.getD (upto8 p / 8 + 1) 0).toNat (upto8 p + 32) out
  else (3, upto8 p, out)
/-- A match's length and a match's distance. -/
def lenE (bs : List Int) (s : Int) (p : Nat) : Option (Int × Nat) :=
  if s < 265 then some (s - 254, p) else if s = 285 then some (258, p) else
    (tk bs p ((s - 261) / 4).toNat).map fun m => (3 + (4 + (s - 265) % 4) * 2 ^ ((s - 261) / 4).toNat + m, p + ((s - 261) / 4).toNat)
def distE (bs : List Int) (s : Int) (p : Nat) : Option (Int × Nat) :=
  if s < 4 then some (s + 1, p) else
    (tk bs p ((s - 2) / 2).toNat).map fun m => (1 + (2 + s % 2) * 2 ^ ((s - 2) / 2).toNat + m, p + ((s - 2) / 2).toNat)
def copyB (most far : Nat) : Nat → List Int → Int × List Int
  | 0, out => (0, out)
  | n + 1, out => if most ≤ out.length then (5, out) else copyB most far n (out ++ [out.getD (out.length - far) 0])
def matchM (bs : List Int) (most : Nat) (dist : List Int) (s : Int) (p : Nat) (out : List Int) : Int × Nat × List Int :=
  match lenE bs s p with
  | none => (4, p, out)
  | some (n, p1) =>
    if (rd dist bs 15 0 p1).2.1 ≠ 0 then ((rd dist bs 15 0 p1).2.1, p1, out)
    else if 30 ≤ (rd dist bs 15 0 p1).1 then (3, p1, out)
    else match distE bs (rd dist bs 15 0 p1).1 (rd dist bs 15 0 p1).2.2 with
      | none => (4, p1, out)
      | some (far, p3) => if (out.length : Int) < far then (3, p3, out) else ((copyB most far.toNat n.toNat out).1, p3, (copyB most far.toNat n.toNat out).2)
/-- A block of codes (the fuel: more than what may still be made). -/
def codedM (bs : List Int) (most : Nat) (lit dist : List Int) : Nat → Nat → List Int → Int × Nat × List Int
  | 0, p, out => (0, p, out)
  | f + 1, p, out =>
    if (rd lit bs 15 0 p).2.1 ≠ 0 then ((rd lit bs 15 0 p).2.1, p, out)
    else if (rd lit bs 15 0 p).1 < 256 then (if most ≤ out.length then (5, p, out) else codedM bs most lit dist f (rd lit bs 15 0 p).2.2 (out ++ [(rd lit bs 15 0 p).1]))
    else if (rd lit bs 15 0 p).1 = 256 then (0, (rd lit bs 15 0 p).2.2, out)
    else if 286 ≤ (rd lit bs 15 0 p).1 then (3, p, out)
    else if (matchM bs most dist (rd lit bs 15 0 p).1 (rd lit bs 15 0 p).2.2 out).1 ≠ 0 then matchM bs most dist (rd lit bs 15 0 p).1 (rd lit bs 15 0 p).2.2 out
    else codedM bs most lit dist f (matchM bs most dist (rd lit bs 15 0 p).1 (rd lit bs 15 0 p).2.2 out).2.1 (matchM bs most dist (rd lit bs 15 0 p).1 (rd lit bs 15 0 p).2.2 out).2.2
/-- The lengths of the fixed codes. -/
def fixLit : List Int := List.replicate 144 8 ++ List.replicate 112 9 ++ List.replicate 24 7 ++ List.replicate 8 8
def fixDist : List Int := List.replicate 32 5
/-- The lengths' lengths: k of them, each three bits. -/
def orderL : List Nat := [16, 17, 18, 0, 8, 7, 9, 6, 10, 5, 11, 4, 12, 3, 13, 2, 14, 1, 15]
def ownL (bs : List Int) (p : Nat) : Nat → List Int
  | 0 => List.replicate 19 0
  | k + 1 => (ownL bs p k).set (orderL.getD k 0) (takeN bs (p + 3 * k) 3)
/-- What a symbol of the lengths' code means: how many bits follow, the least, and what is laid. -/
def repW (s : Int) : Nat := if s = 17 then 3 else if s = 18 then 7 else 2
def repL (s : Int) : Nat := if s = 18 then 11 else 3
def repV (s : Int) (out : List Int) : Int := if s = 16 then out.getD (out.length - 1) 0 else 0
/-- So many lengths (the fuel: more than are left). -/
def lensM (bs own : List Int) (n : Nat) : Nat → Nat → List Int → Int × Nat × List Int
  | 0, p, out => (0, p, out)
  | f + 1, p, out =>
    if n ≤ out.length then (0, p, out)
    else if (rd own bs 15 0 p).2.1 ≠ 0 then ((rd own bs 15 0 p).2.1, p, out)
    else if (rd own bs 15 0 p).1 < 16 then lensM bs own n f (rd own bs 15 0 p).2.2 (out ++ [(rd own bs 15 0 p).1])
    else match tk bs (rd own bs 15 0 p).2.2 (repW (rd own bs 15 0 p).1) with
      | none => (4, p, out)
      | some m => if ((rd own bs 15 0 p).1 = 16 ∧ out.length = 0) ∨ n < out.length + repL (rd own bs 15 0 p).1 + m.toNat then (3, p, out)
        else lensM bs own n f ((rd own bs 15 0 p).2.2 + repW (rd own bs 15 0 p).1) (out ++ List.replicate (repL (rd own bs 15 0 p).1 + m.toNat) (repV (rd own bs 15 0 p).1 out))
/-- One symbol of one bit, or none. -/
def fewB (xs : List Int) : Bool := xs.all (fun x => decide (x ≤ 1)) && decide ((xs.filter fun x => decide (0 < x)).length < 2)
def wholeB (xs : List Int) (few : Bool) : Bool := complete xs || (few && cntB xs && fewB xs)
/-- The codes that a block tells: the error, the place, the two rows of lengths. -/
def dynM (bs : List Int) (p : Nat) : Int × Nat × List Int × List Int :=
  match tk bs p 5 with
  | none => (4, p, [], [])
  | some a => if 286 < a + 257 then (3, p, [], []) else match tk bs (p + 5) 5 with
    | none => (4, p, [], [])
    | some b => if 30 < b + 1 then (3, p, [], []) else match tk bs (p + 10) 4 with
      | none => (4, p, [], [])
      | some c => if 8 * bs.length < p + 14 + 3 * (c.toNat + 4) then (4, p, [], [])
        else if complete (ownL bs (p + 14) (c.toNat + 4)) = false then (3, p, [], [])
        else if (lensM bs (ownL bs (p + 14) (c.toNat + 4)) (a.toNat + 257 + b.toNat + 1) (a.toNat + 257 + b.toNat + 2) (p + 14 + 3 * (c.toNat + 4)) []).1 ≠ 0 then ((lensM bs (ownL bs (p + 14) (c.toNat + 4)) (a.toNat + 257 + b.toNat + 1) (a.toNat + 257 + b.toNat + 2) (p + 14 + 3 * (c.toNat + 4)) []).1, p, [], [])
        else if (lensM bs (ownL bs (p + 14) (c.toNat + 4)) (a.toNat + 257 + b.toNat + 1) (a.toNat + 257 + b.toNat + 2) (p + 14 + 3 * (c.toNat + 4)) []).2.2.getD 256 0 = 0 then (3, p, [], [])
        else if wholeB ((lensM bs (ownL bs (p + 14) (c.toNat + 4)) (a.toNat + 257 + b.toNat + 1) (a.toNat + 257 + b.toNat + 2) (p + 14 + 3 * (c.toNat + 4)) []).2.2.take (a.toNat + 257)) false = false then (3, p, [], [])
        else if wholeB ((lensM bs (ownL bs (p + 14) (c.toNat + 4)) (a.toNat + 257 + b.toNat + 1) (a.toNat + 257 + b.toNat + 2) (p + 14 + 3 * (c.toNat + 4)) []).2.2.drop (a.toNat + 257)) true = false then (3, p, [], [])
        else (0, (lensM bs (ownL bs (p + 14) (c.toNat + 4)) (a.toNat + 257 + b.toNat + 1) (a.toNat + 257 + b.toNat + 2) (p + 14 + 3 * (c.toNat + 4)) []).2.1, (lensM bs (ownL bs (p + 14) (c.toNat + 4)) (a.toNat + 257 + b.toNat + 1) (a.toNat + 257 + b.toNat + 2) (p + 14 + 3 * (c.toNat + 4)) []).2.2.take (a.toNat + 257), (lensM bs (ownL bs (p + 14) (c.toNat + 4)) (a.toNat + 257 + b.toNat + 1) (a.toNat + 257 + b.toNat + 2) (p + 14 + 3 * (c.toNat + 4)) []).2.2.drop (a.toNat + 257))
/-- A block (F: fuel enough for all codes). -/
def blockM (F : Nat) (bs : List Int) (most : Nat) (h : Int) (p : Nat) (out : List Int) : Int × Nat × List Int :=
  if h = 0 then storedM bs most p out
  else if h = 1 then codedM bs most fixLit fixDist F p out
  else if (dynM bs p).1 ≠ 0 then ((dynM bs p).1, p, out)
  else codedM bs most (dynM bs p).2.2.1 (dynM bs p).2.2.2 F (dynM bs p).2.1 out
/-- A row of blocks (the fuel: more than bits are left). -/
def rawM (F : Nat) (bs : List Int) (most : Nat) : Nat → Nat → List Int → Int × Nat × List Int
  | 0, p, out => (0, p, out)
  | f + 1, p, out => if 8 * bs.length < p + 3 then (4, p, out)
    else if takeN bs (p + 1) 2 = 3 then (3, p, out)
    else if (blockM F bs most (takeN bs (p + 1) 2) (p + 3) out).1 ≠ 0 then blockM F bs most (takeN bs (p + 1) 2) (p + 3) out
    else if takeN bs p 1 = 1 then blockM F bs most (takeN bs (p + 1) 2) (p + 3) out
    else rawM F bs most f (blockM F bs most (takeN bs (p + 1) 2) (p + 3) out).2.1 (blockM F bs most (takeN bs (p + 1) 2) (p + 3) out).2.2
/-- All: the error, how many bytes were taken, what was made. -/
def infM (F : Nat) (bs : List Int) (most : Nat) : Int × Nat × List Int :=
  if (rawM F bs most F 0 []).1 ≠ 0 then ((rawM F bs most F 0 []).1, 0, [])
  else (0, ((rawM F bs most F 0 []).2.1 + 7) / 8, (rawM F bs most F 0 []).2.2)
end Go.Proofs.Ytoeipgbnjcgbjaa
