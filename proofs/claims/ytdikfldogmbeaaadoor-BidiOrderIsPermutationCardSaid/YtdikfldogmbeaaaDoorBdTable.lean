/- The classes of characters, in plain Lean. -/
import Derived.Test.YtdikfldogmbeaaaDoorBdPlain
import Derived.Test.YtdikfldogmbeaaaDoorLaid
namespace Go.Proofs.YtdikfldogmbeaaaDoor.Bd
open Go.RowKit Go.Frm

def clsTb : List (List Int) := [[9, 9, 11], [10, 10, 10], [0, 31, 9], [32, 32, 12], [35, 37, 5], [43, 43, 4], [45, 45, 4], [44, 44, 7], [46, 47, 7], [58, 58, 7], [48, 57, 3],
  [33, 64, 13], [91, 96, 13], [123, 126, 13], [127, 159, 9], [160, 160, 7], [162, 165, 5], [173, 173, 9], [176, 177, 5], [170, 170, 0], [181, 181, 0], [186, 186, 0], [161, 191, 13], [215, 215, 13], [247, 247, 13],
  [768, 879, 8], [1425, 1469, 8], [1471, 1471, 8], [1473, 1474, 8], [1424, 1535, 1], [1552, 1562, 8], [1611, 1631, 8], [1632, 1641, 6], [1643, 1644, 6], [1776, 1785, 3], [1536, 1983, 2], [1984, 2143, 1], [2144, 2303, 2],
  [8192, 8202, 12], [8203, 8205, 9], [8206, 8206, 0], [8207, 8207, 1], [8234, 8234, 14], [8235, 8235, 15], [8236, 8236, 18], [8237, 8237, 16], [8238, 8238, 17], [8239, 8239, 7],
  [8288, 8293, 9], [8294, 8294, 19], [8295, 8295, 20], [8296, 8296, 21], [8297, 8297, 22], [8352, 8399, 5], [8208, 8287, 13], [8592, 11263, 13], [12288, 12288, 12], [12289, 12292, 13], [12296, 12320, 13],
  [64285, 64335, 1], [64336, 65023, 2], [65024, 65039, 8], [65136, 65278, 2], [65279, 65279, 9], [65529, 65533, 13]]
/-- the class of a character, by r rows from i on -/
def clsFrom (c : Int) : Nat → Nat → Int
  | 0, _ => 0
  | r + 1, i => if tbV clsTb i 0 ≤ c ∧ c ≤ tbV clsTb i 1 then tbV clsTb i 2 else clsFrom c r (i + 1)
def clsOf (c : Int) : Int := clsFrom c 65 0
theorem clsTb_len : clsTb.length = 65 := rfl
theorem clsTb_bd : ∀ i, i < 65 → 0 ≤ tbV clsTb i 2 ∧ tbV clsTb i 2 ≤ 22 := by decide
theorem clsFrom_bd (c : Int) : ∀ r i, i + r ≤ 65 → 0 ≤ clsFrom c r i ∧ clsFrom c r i ≤ 22
  | 0, _, _ => by simp [clsFrom]
  | r + 1, i, h => by
    unfold clsFrom
    split
    · exact clsTb_bd i (by omega)
    · exact clsFrom_bd c r (i + 1) (by omega)
theorem clsOf_bd (c : Int) : 0 ≤ clsOf c ∧ clsOf c ≤ 22 := clsFrom_bd c 65 0 (by omega)
theorem cls_small : ∀ k : Nat, k < 26 → clsOf (97 + k) = 0 := by decide
theorem cls_heb : ∀ k : Nat, k < 27 → clsOf (1488 + k) = 1 := by decide
theorem cls_l {c : Int} (h : 97 ≤ c ∧ c ≤ 122) : clsOf c = 0 := by
  have := cls_small (c - 97).toNat (by omega)
  rwa [show (97 : Int) + ((c - 97).toNat : Int) = c by omega] at this
theorem cls_r {c : Int} (h : 1488 ≤ c ∧ c ≤ 1514) : clsOf c = 1 := by
  have := cls_heb (c - 1488).toNat (by omega)
  rwa [show (1488 : Int) + ((c - 1488).toNat : Int) = c by omega] at this
def brTb : List (List Int) := [[40, 41], [91, 93], [123, 125], [12300, 12301], [60, 62], [171, 187], [8249, 8250]]
end Go.Proofs.YtdikfldogmbeaaaDoor.Bd
