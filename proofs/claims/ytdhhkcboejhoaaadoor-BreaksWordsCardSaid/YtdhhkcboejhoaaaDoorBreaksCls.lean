/- The classes of characters, in plain Lean. (Printed by wip/bin/classgen.py.) -/
import Derived.Test.YtdhhkcboejhoaaaDoorMetricPlain
namespace Go.Proofs.YtdhhkcboejhoaaaDoor.Bre
open Go.RowKit Go.Frm Mtr

def b0 (c : Int) : Bool := c == 10
def b1 (c : Int) : Bool := c == 32 || c == 9
def b2 (c : Int) : Bool := c == 8203
def b3 (c : Int) : Bool := c == 160 || c == 8239 || c == 8288 || c == 65279
def b4 (c : Int) : Bool := c == 45 || c == 8208 || c == 8211
def b5 (c : Int) : Bool := c == 173
def b6 (c : Int) : Bool := (decide (48 ≤ c) && decide (c ≤ 57))
def b7 (c : Int) : Bool := c == 40 || c == 91 || c == 123 || c == 171 || c == 191 || c == 161 || c == 8216 || c == 8220 || c == 12300
def b8 (c : Int) : Bool := c == 41 || c == 93 || c == 125 || c == 187 || c == 44 || c == 46 || c == 58 || c == 59 || c == 33 || c == 63 || c == 8217 || c == 8221 || c == 8230 || c == 12289 || c == 12290 || c == 12301
def b9 (c : Int) : Bool := c == 65532 || (decide (11904 ≤ c) && decide (c ≤ 42191)) || (decide (44032 ≤ c) && decide (c ≤ 55203)) || (decide (63744 ≤ c) && decide (c ≤ 64255)) || (decide (65280 ≤ c) && decide (c ≤ 65376)) || (decide (131072 ≤ c) && decide (c ≤ 262141))
def b10 (c : Int) : Bool := c == 8205 || Mtr.mark c
/-- the class of a character -/
def cls (c : Int) : Int :=
  if b0 c = true then 1 else if b1 c = true then 2 else if b2 c = true then 3 else if b3 c = true then 4 else if b4 c = true then 5 else if b5 c = true then 6 else if b6 c = true then 11 else if b7 c = true then 7 else if b8 c = true then 8 else if b9 c = true then 9 else if b10 c = true then 10 else 0
theorem cls_bd (c : Int) : 0 ≤ cls c ∧ cls c ≤ 11 := by unfold cls; (repeat' split) <;> decide
theorem cls_newline (c : Int) : cls c = 1 ↔ c = 10 := by
  constructor
  · intro h
    unfold cls at h
    by_cases h1 : b0 c = true
    · simpa [b0] using h1
    · rw [if_neg h1] at h
      exfalso
      revert h
      (repeat' split) <;> decide
  · rintro rfl
    rfl

end Go.Proofs.YtdhhkcboejhoaaaDoor.Bre
