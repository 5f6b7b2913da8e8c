/- Parts of paragraphs and what package lines computes of them, as plain functions. No program in sight. -/
import Derived.Test.YtmjhmcjlbcadaaaSlices
namespace Go.Proofs.Ytmjhmcjlbcadaaa.Ln
open Go.RowKit Go.Frm

/-- the parts of a paragraph -/
structure Pts where
  n : Nat
  kd : Nat → Int
  wd : Nat → Int
  st : Nat → Int
  sh : Nat → Int
  co : Nat → Int
  fl : Nat → Bool
def ptV (P : Pts) (i : Nat) : Nat → Value
  | 0 => .int .i64 (P.kd i)
  | 1 => .int .i64 (P.wd i)
  | 2 => .int .i64 (P.st i)
  | 3 => .int .i64 (P.sh i)
  | 4 => .int .i64 (P.co i)
  | _ => .bool (P.fl i)
/-- valid parts, as these laws have them -/
structure VP (P : Pts) : Prop where
  few : P.n ≤ 1000
  kind : ∀ i, i < P.n → 0 ≤ P.kd i ∧ P.kd i ≤ 2
  wide : ∀ i, i < P.n → 0 ≤ P.wd i ∧ P.wd i ≤ 300
  str : ∀ i, i < P.n → 0 ≤ P.st i ∧ P.st i ≤ 100
  shr : ∀ i, i < P.n → 0 ≤ P.sh i ∧ P.sh i ≤ P.wd i
  cost : ∀ i, i < P.n → -10000 ≤ P.co i ∧ P.co i ≤ 10000
  glue : ∀ i, i < P.n → P.kd i ≠ 1 → P.st i = 0 ∧ P.sh i = 0
  pen : ∀ i, i < P.n → P.kd i ≠ 2 → P.co i = 0 ∧ P.fl i = false
/-- sums of what is ahead of a part -/
def sW (P : Pts) : Nat → Int
  | 0 => 0
  | i + 1 => sW P i + if P.kd i = 2 then 0 else P.wd i
def sG (P : Pts) : Nat → Int
  | 0 => 0
  | i + 1 => sG P i + P.st i
def sY (P : Pts) : Nat → Int
  | 0 => 0
  | i + 1 => sY P i + P.sh i
/-- whether a line can begin at a part -/
def box (P : Pts) (i : Nat) : Bool := P.kd i == 0 || (P.kd i == 2 && P.co i == -10000)
/-- the first part of a line behind a break, k parts from the end -/
def nx (P : Pts) : Nat → Nat
  | 0 => P.n
  | k + 1 => if box P (P.n - (k + 1)) then P.n - (k + 1) else nx P k
def bg (P : Pts) (i : Nat) : Nat := nx P (P.n - i)
def must (P : Pts) (i : Nat) : Bool := i == P.n || (P.kd i == 2 && P.co i == -10000)
def may (P : Pts) (i : Nat) : Bool := if i = P.n then true else if P.kd i = 1 then decide (0 < i) && P.kd (i - 1) == 0 else if P.kd i = 2 then decide (P.co i < 10000) else false
def after (P : Pts) (i : Nat) : Nat := if i = P.n then i else bg P (i + 1)
def last (P : Pts) (i : Nat) : Bool := after P i == P.n
def flag (P : Pts) (i : Nat) : Bool := decide (i < P.n) && P.fl i
def added (P : Pts) (i : Nat) : Int := if i < P.n ∧ P.kd i = 2 then P.wd i else 0
def bad (b c : Int) : Int := if b = 0 then 0 else if c = 0 then 10000 else
  min ((min ((1000 * b).tdiv c) 5000 * min ((1000 * b).tdiv c) 5000 * min ((1000 * b).tdiv c) 5000).tdiv 10000000) 10000

theorem nx_bd (P : Pts) : ∀ k, k ≤ P.n → P.n - k ≤ nx P k ∧ nx P k ≤ P.n
  | 0, _ => by simp [nx]
  | k + 1, h => by
    have ih := nx_bd P k (by omega)
    unfold nx
    split <;> omega
theorem bg_bd (P : Pts) {i : Nat} (h : i ≤ P.n) : i ≤ bg P i ∧ bg P i ≤ P.n := by
  have := nx_bd P (P.n - i) (by omega)
  unfold bg
  omega
theorem bg_step (P : Pts) {i : Nat} (h : i < P.n) : bg P i = if box P i then i else bg P (i + 1) := by
  unfold bg
  have e : P.n - i = (P.n - (i + 1)) + 1 := by omega
  have e2 : P.n - (P.n - (i + 1) + 1) = i := by omega
  rw [e, nx, e2]
theorem bg_end (P : Pts) : bg P P.n = P.n := by unfold bg; rw [Nat.sub_self]; rfl
theorem after_bd (P : Pts) {i : Nat} (h : i < P.n) : i < after P i ∧ after P i ≤ P.n := by
  have := bg_bd P (show i + 1 ≤ P.n by omega)
  unfold after
  rw [if_neg (by omega)]
  omega
theorem sW_bd {P : Pts} (h : VP P) : ∀ i : Nat, i ≤ P.n → 0 ≤ sW P i ∧ sW P i ≤ 300 * i
  | 0, _ => by simp [sW]
  | i + 1, hi => by
    have ih := sW_bd h i (by omega)
    have h1 := h.wide i (by omega)
    unfold sW
    split <;> omega
theorem sG_bd {P : Pts} (h : VP P) : ∀ i : Nat, i ≤ P.n → 0 ≤ sG P i ∧ sG P i ≤ 100 * i
  | 0, _ => by simp [sG]
  | i + 1, hi => by
    have ih := sG_bd h i (by omega)
    have h1 := h.str i (by omega)
    unfold sG
    omega
theorem sY_bd {P : Pts} (h : VP P) : ∀ i : Nat, i ≤ P.n → 0 ≤ sY P i ∧ sY P i ≤ 300 * i
  | 0, _ => by simp [sY]
  | i + 1, hi => by
    have ih := sY_bd h i (by omega)
    have h1 := h.shr i (by omega)
    have h2 := h.wide i (by omega)
    unfold sY
    omega
end Go.Proofs.Ytmjhmcjlbcadaaa.Ln
