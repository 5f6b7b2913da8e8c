/- What package metric computes, in plain Lean. -/
import Derived.Test.YtdhhkcboejhoaaaDoorLaid
namespace Go.Proofs.YtdhhkcboejhoaaaDoor.Mtr
open Go.RowKit Go.Frm

def marksTb : List (List Int) := [[173, 173, 0], [768, 879, 0], [1425, 1469, 0], [1471, 1471, 0], [1473, 1474, 0], [1552, 1562, 0], [1611, 1631, 0], [8203, 8207, 0], [8234, 8238, 0], [8288, 8297, 0], [65024, 65039, 0], [65532, 65532, 0]]
def othersTb : List (List Int) := [[9, 10, 0], [48, 57, 500], [160, 160, 250], [192, 222, 660], [223, 591, 500], [880, 1327, 560], [1424, 2303, 520], [4352, 4447, 1000], [8212, 8212, 1000], [8208, 8211, 500], [11904, 42191, 1000], [44032, 55203, 1000], [63744, 64255, 1000], [65280, 65376, 1000], [131072, 262141, 1000], [65, 90, 660], [33, 126, 500]]
/-- the first row from i on, of n rows, that contains c -/
def lookFrom (tb : List (List Int)) (c : Int) : Nat → Nat → Int × Bool
  | _, 0 => (0, false)
  | i, n + 1 => if tbV tb i 0 ≤ c ∧ c ≤ tbV tb i 1 then (tbV tb i 2, true) else lookFrom tb c (i + 1) n
def look (tb : List (List Int)) (c : Int) : Int × Bool := lookFrom tb c 0 tb.length
theorem lookFrom_bd {tb : List (List Int)} (c : Int) (h : ∀ i, 0 ≤ tbV tb i 2 ∧ tbV tb i 2 ≤ 1000) : ∀ n i, 0 ≤ (lookFrom tb c i n).1 ∧ (lookFrom tb c i n).1 ≤ 1000
  | 0, _ => by show (0 : Int) ≤ 0 ∧ (0 : Int) ≤ 1000; omega
  | n + 1, i => by
    unfold lookFrom
    split
    · exact h i
    · exact lookFrom_bd c h n (i + 1)
theorem tb_bd {tb : List (List Int)} (h : ∀ r ∈ tb, 0 ≤ r.getD 2 0 ∧ r.getD 2 0 ≤ 1000) (i : Nat) : 0 ≤ tbV tb i 2 ∧ tbV tb i 2 ≤ 1000 := by
  unfold tbV
  rcases Nat.lt_or_ge i tb.length with hi | hi
  · have := h tb[i] (List.getElem_mem hi)
    simpa [List.getD_eq_getElem?_getD, hi] using this
  · simp [List.getD_eq_getElem?_getD, List.getElem?_eq_none hi]
def mark (c : Int) : Bool := (look marksTb c).2
/-- characters with a width of their own -/
def sgl (c : Int) : Int × Bool :=
  if (c == 32) = true then (250, true)
  else if (c == 105 || c == 106 || c == 108 || c == 33 || c == 39 || c == 44 || c == 46 || c == 58 || c == 59 || c == 124) = true then (280, true)
  else if (c == 73 || c == 102 || c == 114 || c == 116 || c == 40 || c == 41 || c == 91 || c == 93 || c == 45) = true then (330, true)
  else if (c == 109 || c == 119) = true then (760, true)
  else if (c == 77 || c == 87) = true then (880, true)
  else (0, false)
theorem sgl_bd (c : Int) : 0 ≤ (sgl c).1 ∧ (sgl c).1 ≤ 1000 := by unfold sgl; (repeat' split) <;> decide
def em (c : Int) : Int := if mark c = true then 0 else if (sgl c).2 = true then (sgl c).1 else if (look othersTb c).2 = true then (look othersTb c).1 else 600
theorem em_bd (c : Int) : 0 ≤ em c ∧ em c ≤ 1000 := by
  unfold em
  split
  · decide
  · split
    · exact sgl_bd c
    · split
      · exact lookFrom_bd c (tb_bd (by decide)) _ _
      · decide
def rnd (a b : Int) : Int := (2 * a + b) / (2 * b)
/-- the width of a character -/
def adv (size : Int) (bold fixed : Bool) (c : Int) : Int :=
  if em c = 0 then 0 else rnd ((if fixed = true ∧ em c = 1000 then 1200 else if fixed = true then 600 else if bold = true then em c + 40 else em c) * size) 1000
def lean (c : Int) : Bool := c == 84 || c == 86 || c == 87 || c == 89
def pair (a b : Int) : Int := if (lean a = true ∧ b = 65) ∨ (a = 65 ∧ lean b = true) then 70 else if (lean a = true ∨ a = 80) ∧ (b = 46 ∨ b = 44) then 90 else 0
theorem pair_bd (a b : Int) : 0 ≤ pair a b ∧ pair a b ≤ 90 := by unfold pair; (repeat' split) <;> decide
def krn (size : Int) (fixed : Bool) (a b : Int) : Int := if fixed = true then 0 else -rnd (pair a b * size) 1000
end Go.Proofs.YtdhhkcboejhoaaaDoor.Mtr
