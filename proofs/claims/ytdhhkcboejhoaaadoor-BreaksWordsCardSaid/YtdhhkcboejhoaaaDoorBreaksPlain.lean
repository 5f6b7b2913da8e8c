/- What package breaks computes, in plain Lean. -/
import Derived.Test.YtdhhkcboejhoaaaDoorBreaksCls
namespace Go.Proofs.YtdhhkcboejhoaaaDoor.Bre
open Go.RowKit Go.Frm Mtr

/-- what is known of the text ahead of a place -/
structure Scn where
  base : Int
  before : Int
  spaces : Int
  firm : Int
  any : Bool
  joined : Bool
def Scn.init : Scn := ⟨0, 1, 0, 0, false, false⟩
def Scn.cells (s : Scn) : Array Value := #[.int .i64 s.base, .int .i64 s.before, .int .i64 s.spaces, .int .i64 s.firm, .bool s.any, .bool s.joined]
def mayF (s : Scn) (k : Int) : Int × Bool :=
  if (s.base == 1) = true then (2, true)
  else if (s.joined || k == 1 || k == 2 || k == 10 || k == 3) = true then (0, false)
  else if (s.firm == 3) = true then (0, true)
  else if (s.base == 4 || (k == 4 && s.spaces == 0) || k == 8 || s.firm == 7) = true then (0, false)
  else if decide (0 < s.spaces) = true then (0, true)
  else if (s.base == 6) = true then (1, true)
  else if (s.base == 5) = true then (0, k != 11 && s.before != 2 && s.before != 1)
  else if (s.base == 9 || k == 9) = true then (0, true)
  else (0, false)
/-- behind a character of class k that is no mark, or of which the scan takes no notice as a mark -/
def Scn.put (s : Scn) (k : Int) (j : Bool) : Scn :=
  ⟨k, if s.any = true then s.base else s.before, if (k == 2) = true then s.spaces + 1 else 0, if (k == 2) = true then s.firm else k, true, j⟩
def stepF (s : Scn) (c : Int) : Scn :=
  if (cls c == 10) = true then
    if (s.any && s.base != 1) = true then { s with joined := c == 8205 } else s.put 0 (c == 8205)
  else s.put (cls c) (c == 8205)
def stK (C : Nat → Int) : Nat → Scn
  | 0 => Scn.init
  | k + 1 => stepF (stK C k) (C k)
def plcs (C : Nat → Int) : Nat → List (Int × Int)
  | 0 => []
  | k + 1 => plcs C k ++ (if decide (0 < k) = true ∧ (mayF (stK C k) (cls (C k))).2 = true then [((k : Int), (mayF (stK C k) (cls (C k))).1)] else [])

theorem spaces_bd (C : Nat → Int) : ∀ k : Nat, 0 ≤ (stK C k).spaces ∧ (stK C k).spaces ≤ k
  | 0 => by show (0 : Int) ≤ 0 ∧ (0 : Int) ≤ ((0 : Nat) : Int); omega
  | k + 1 => by
    have ih := spaces_bd C k
    show 0 ≤ (stepF (stK C k) (C k)).spaces ∧ (stepF (stK C k) (C k)).spaces ≤ _
    unfold stepF Scn.put
    split
    · split
      · show 0 ≤ (stK C k).spaces ∧ (stK C k).spaces ≤ _
        omega
      · show 0 ≤ (if ((0 : Int) == 2) = true then (stK C k).spaces + 1 else 0) ∧ _
        simp
        omega
    · show 0 ≤ (if (cls (C k) == 2) = true then (stK C k).spaces + 1 else 0) ∧ (if (cls (C k) == 2) = true then (stK C k).spaces + 1 else 0) ≤ _
      split <;> omega
/-- the state behind a character -/
theorem base_newline (C : Nat → Int) : ∀ k, (stK C (k + 1)).base = 1 ↔ C k = 10 := fun k => by
  show (stepF (stK C k) (C k)).base = 1 ↔ _
  unfold stepF Scn.put
  have h := cls_newline (C k)
  by_cases hm : (cls (C k) == 10) = true
  · rw [if_pos hm]
    have hm' : cls (C k) = 10 := by simpa using hm
    have hc : ¬ C k = 10 := fun hh => by rw [h.2 hh] at hm'; omega
    split
    · rename_i ha
      simp at ha
      exact ⟨fun hb => absurd hb ha.2, fun hh => absurd hh hc⟩
    · exact ⟨(fun hb => by cases hb), fun hh => absurd hh hc⟩
  · rw [if_neg hm]
    exact h
theorem joined_eq (C : Nat → Int) (k : Nat) : (stK C (k + 1)).joined = (C k == 8205) := by
  show (stepF (stK C k) (C k)).joined = _
  unfold stepF Scn.put
  split
  · split <;> rfl
  · rfl
/-- where a line can end -/
theorem mayF_spec (s : Scn) (k : Int) : (s.base = 1 → mayF s k = (2, true)) ∧ (s.base ≠ 1 → (mayF s k).1 ≠ 2 ∧ ((mayF s k).2 = true → s.joined = false ∧ k ≠ 10)) := by
  constructor
  · intro h
    unfold mayF
    simp [h]
  · intro h
    unfold mayF
    have h1 : (s.base == 1) = false := by simpa using h
    rw [h1, if_neg (by decide)]
    by_cases h2 : (s.joined || k == 1 || k == 2 || k == 10 || k == 3) = true
    · rw [if_pos h2]
      exact ⟨by decide, (fun h => by cases h)⟩
    · rw [if_neg h2]
      have h3 : s.joined = false ∧ k ≠ 10 := by simp at h2; exact ⟨h2.1.1.1.1, h2.1.2⟩
      refine ⟨?_, fun _ => h3⟩
      (repeat' split) <;> first | decide | (show (0 : Int) ≠ 2; decide)

def flat (l : List (Int × Int)) : List Value := l.flatMap fun p => [.int .i64 p.1, .int .i64 p.2]
def fl (l : List (Int × Int)) (i j : Nat) : Value := if j = 0 then .int .i64 (l.getD i (0, 0)).1 else .int .i64 (l.getD i (0, 0)).2
theorem flat_push (l : List (Int × Int)) (p : Int × Int) : flat (l ++ [p]) = flat l ++ [.int .i64 p.1, .int .i64 p.2] := by simp [flat]
theorem flat_rowFn : ∀ (n : Nat) (l : List (Int × Int)), l.length = n → flat l = rowF l.length 2 (fl l)
  | 0, l, h => by
    obtain rfl := List.eq_nil_of_length_eq_zero h
    rfl
  | n + 1, l, h => by
    rcases List.eq_nil_or_concat l with rfl | ⟨l, p, rfl⟩
    · cases h
    · rw [List.concat_eq_append] at h ⊢
      rw [List.length_append, List.length_singleton] at h
      rw [flat_push, flat_rowFn n l (by omega), List.length_append, List.length_singleton, rowF_succ]
      have h2 : rowF l.length 2 (fl (l ++ [p])) = rowF l.length 2 (fl l) := rowF_congr fun i j hi hj => by
        unfold fl
        simp [List.getElem?_append_left hi]
      rw [h2]
      congr 1
      show _ = [fl (l ++ [p]) l.length 0, fl (l ++ [p]) l.length 1]
      simp [fl]
theorem flat_rowF (l : List (Int × Int)) : flat l = rowF l.length 2 (fl l) := flat_rowFn _ l rfl

theorem plcs_mem (C : Nat → Int) (p : Int × Int) : ∀ N, p ∈ plcs C N ↔ ∃ i : Nat, 0 < i ∧ i < N ∧ (mayF (stK C i) (cls (C i))).2 = true ∧ p = ((i : Int), (mayF (stK C i) (cls (C i))).1)
  | 0 => by
    constructor
    · intro h; cases h
    · rintro ⟨i, _, h, _⟩; omega
  | N + 1 => by
    have ih := plcs_mem C p N
    unfold plcs
    rw [List.mem_append, ih]
    constructor
    · rintro (⟨i, h1, h2, h3⟩ | h)
      · exact ⟨i, h1, by omega, h3⟩
      · split at h
        · rename_i hc
          rw [List.mem_singleton] at h
          exact ⟨N, of_decide_eq_true hc.1, by omega, hc.2, h⟩
        · cases h
    · rintro ⟨i, h1, h2, h3, h4⟩
      by_cases hi : i = N
      · subst hi
        right
        rw [if_pos ⟨decide_eq_true h1, h3⟩, h4]
        simp
      · exact .inl ⟨i, h1, by omega, h3, h4⟩
/-- a line must end behind each newline, and only there -/
theorem must_iff (C : Nat → Int) {i N : Nat} (h1 : 0 < i) (h2 : i < N) : ((i : Int), (2 : Int)) ∈ plcs C N ↔ C (i - 1) = 10 := by
  have hb := base_newline C (i - 1)
  rw [show i - 1 + 1 = i by omega] at hb
  have hm := mayF_spec (stK C i) (cls (C i))
  rw [plcs_mem]
  constructor
  · rintro ⟨j, j1, j2, j3, j4⟩
    have hij : i = j := by
      have := congrArg Prod.fst j4
      simp only at this
      omega
    subst hij
    refine hb.1 ?_
    refine Classical.byContradiction fun hne => ?_
    have := (hm.2 hne).1
    exact this (congrArg Prod.snd j4).symm
  · intro h
    have := hm.1 (hb.2 h)
    exact ⟨i, h1, h2, by rw [this], by rw [this]⟩
end Go.Proofs.YtdhhkcboejhoaaaDoor.Bre
