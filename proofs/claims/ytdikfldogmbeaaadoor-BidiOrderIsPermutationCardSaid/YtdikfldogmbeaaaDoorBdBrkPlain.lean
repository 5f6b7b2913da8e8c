/- Pairs of brackets in plain Lean. -/
import Derived.Test.YtdikfldogmbeaaaDoorBdPlain
namespace Go.Proofs.YtdikfldogmbeaaaDoor.Bd
open Go.RowKit Go.Frm

section
variable {b : Nat → Nat → Int} {c : Int} {k : Nat}
theorem bkOne_full {j : Nat} {s : Bk} (h0 : (c == b j 0) = true) (hm : s.m = 63) : bkOne b c k j s = none := by
  unfold bkOne
  rw [if_pos h0, if_pos hm]
theorem bkOne_push {j : Nat} {s : Bk} (h0 : (c == b j 0) = true) (hm : ¬ s.m = 63) (h1 : (c == b j 1) = false) : bkOne b c k j s = some (bkOpen (b j 1) k s) := by
  unfold bkOne
  rw [if_pos h0, if_neg hm, h1]
  rfl
theorem bkOne_close {j : Nat} {s : Bk} (h0 : (c == b j 0) = false) (h1 : (c == b j 1) = true) : bkOne b c k j s = some (bkClose c k s) := by
  unfold bkOne
  rw [h0, h1]
  rfl
theorem bkOne_skip {j : Nat} {s : Bk} (h0 : (c == b j 0) = false) (h1 : (c == b j 1) = false) : bkOne b c k j s = some s := by
  unfold bkOne
  rw [h0, h1]
  rfl
theorem bkAll_next {j : Nat} {s s' : Bk} (h : bkAll b c k s j = some s') : bkAll b c k s (j + 1) = bkOne b c k j s' := by
  show (bkAll b c k s j).bind (bkOne b c k j) = _
  rw [h]; rfl
theorem bkAll_none {s : Bk} {j : Nat} (h : bkAll b c k s j = none) : ∀ d, bkAll b c k s (j + d) = none
  | 0 => h
  | d + 1 => by
    show (bkAll b c k s (j + d)).bind (bkOne b c k (j + d)) = none
    rw [bkAll_none h d]; rfl
end
section
variable {q : Sq} {b : Nat → Nat → Int} {X C : Nat → Int}
theorem bks_next {k : Nat} {s : Bk} (h : q.bks b X C k = some s) : q.bks b X C (k + 1) = if q.get C k == 13 then bkAll b (X (q.A k)) k s 4 else some s := by
  show (q.bks b X C k).bind (fun s => if q.get C k == 13 then bkAll b (X (q.A k)) k s 4 else some s) = _
  rw [h]; rfl
theorem bks_none {k : Nat} (h : q.bks b X C k = none) : ∀ d, q.bks b X C (k + d) = none
  | 0 => h
  | d + 1 => by
    show (q.bks b X C (k + d)).bind (fun s => if q.get C (k + d) == 13 then bkAll b (X (q.A (k + d))) (k + d) s 4 else some s) = none
    rw [bks_none h d]; rfl
end
theorem closeAt_le (oc : Nat → Int) (c : Int) : ∀ m, closeAt oc c m ≤ m
  | 0 => Nat.le_refl _
  | m + 1 => by
    unfold closeAt
    split
    · exact Nat.le_refl _
    · exact Nat.le_succ_of_le (closeAt_le oc c m)
/-- bounds -/
structure BkOk (s : Bk) (cnt kk : Nat) : Prop where
  m63 : s.m ≤ 63
  cn : s.n ≤ cnt
  ok : ∀ i, i < s.m → s.ok i < kk
  pa : ∀ i, i < s.n → s.pa i < kk ∧ s.pb i < kk
theorem BkOk.start : BkOk bk0 0 0 := ⟨by decide, Nat.le_refl _, fun i hi => absurd hi (Nat.not_lt_zero i), fun i hi => absurd hi (Nat.not_lt_zero i)⟩
theorem BkOk.mono {s : Bk} {c c' k k' : Nat} (h : BkOk s c k) (hc : c ≤ c') (hk : k ≤ k') : BkOk s c' k' :=
  ⟨h.m63, Nat.le_trans h.cn hc, fun i hi => Nat.lt_of_lt_of_le (h.ok i hi) hk, fun i hi => ⟨Nat.lt_of_lt_of_le (h.pa i hi).1 hk, Nat.lt_of_lt_of_le (h.pa i hi).2 hk⟩⟩
theorem BkOk.push {s : Bk} {c k : Nat} {b1 : Int} (h : BkOk s c (k + 1)) (hm : ¬ s.m = 63) : BkOk (bkOpen b1 k s) (c + 1) (k + 1) :=
  ⟨by have := h.m63; show s.m + 1 ≤ 63; omega, Nat.le_succ_of_le h.cn, fun i hi => by
    show upd s.ok s.m k i < k + 1
    have hi' : i < s.m + 1 := hi
    unfold upd
    split
    · omega
    · exact h.ok i (by omega), h.pa⟩
theorem BkOk.close {s : Bk} {cn k : Nat} {c : Int} (h : BkOk s cn (k + 1)) : BkOk (bkClose c k s) (cn + 1) (k + 1) := by
  unfold bkClose
  have hl := closeAt_le s.oc c s.m
  split
  · exact h.mono (Nat.le_succ _) (Nat.le_refl _)
  · rename_i h0
    refine ⟨by have := h.m63; show closeAt s.oc c s.m - 1 ≤ 63; omega, Nat.succ_le_succ h.cn, fun i hi => h.ok i (by have : i < closeAt s.oc c s.m - 1 := hi; omega), fun i hi => ?_⟩
    have hi' : i < s.n + 1 := hi
    show upd s.pa s.n _ i < k + 1 ∧ upd s.pb s.n k i < k + 1
    by_cases e : i = s.n
    · subst e
      rw [upd_same, upd_same]
      exact ⟨h.ok _ (by omega), by omega⟩
    · rw [upd_other _ _ e, upd_other _ _ e]
      exact h.pa i (by omega)
/-- a pair that is found -/
def bkHit (k m : Nat) (s : Bk) : Bk := { s with pa := upd s.pa s.n (s.ok m), pb := upd s.pb s.n k, n := s.n + 1, m := m }
theorem bkClose_hit {c : Int} {k m : Nat} {s : Bk} (h : closeAt s.oc c s.m = m + 1) : bkClose c k s = bkHit k m s := by
  unfold bkClose
  rw [if_neg (by omega), h]
  rfl
theorem bkClose_none {c : Int} {k : Nat} {s : Bk} (h : closeAt s.oc c s.m = 0) : bkClose c k s = s := by
  unfold bkClose
  rw [if_pos h]
/-- the pairs, in the order of the opening ones -/
def Sq.prs (q : Sq) (b : Nat → Nat → Int) (X C : Nat → Int) : Nat × Ps :=
  match q.bks b X C q.n with
  | none => (0, ⟨fun _ => 0, fun _ => 0⟩)
  | some s => (s.n, (Ps.mk s.pa s.pb).srt s.n)
theorem prs_none {q : Sq} {b : Nat → Nat → Int} {X C : Nat → Int} (h : q.bks b X C q.n = none) : (q.prs b X C).1 = 0 := by
  unfold Sq.prs
  rw [h]
theorem prs_some {q : Sq} {b : Nat → Nat → Int} {X C : Nat → Int} {s : Bk} (h : q.bks b X C q.n = some s) : q.prs b X C = (s.n, (Ps.mk s.pa s.pb).srt s.n) := by
  unfold Sq.prs
  rw [h]
theorem brackets_prs (q : Sq) (b : Nat → Nat → Int) (X C : Nat → Int) : q.brackets b X C = q.brS (q.prs b X C).2 C (q.prs b X C).1 := by
  unfold Sq.brackets Sq.prs
  cases q.bks b X C q.n <;> rfl
/-- bounds of pairs -/
def PsOk (p : Ps) (n kk : Nat) : Prop := ∀ i, i < n → p.a i < kk ∧ p.b i < kk
theorem PsOk.swap {p : Ps} {n kk k : Nat} (h : PsOk p n kk) (hk : k + 1 < n) : PsOk (p.swap k) n kk := by
  intro i hi
  show upd (upd p.a (k + 1) (p.a k)) k (p.a (k + 1)) i < kk ∧ upd (upd p.b (k + 1) (p.b k)) k (p.b (k + 1)) i < kk
  unfold upd
  split
  · exact h _ (by omega)
  · split
    · exact h _ (by omega)
    · exact h i hi
theorem PsOk.ins {n kk : Nat} : ∀ k (p : Ps), PsOk p n kk → k < n → PsOk (Ps.ins k p) n kk
  | 0, _, h, _ => h
  | k + 1, p, h, hk => by
    unfold Ps.ins
    split
    · exact PsOk.ins k _ (h.swap hk) (by omega)
    · exact h
theorem PsOk.srt {p : Ps} {n kk : Nat} (h : PsOk p n kk) : ∀ i, i ≤ n → PsOk (p.srt i) n kk
  | 0, _ => h
  | i + 1, hi => by
    unfold Ps.srt
    exact PsOk.ins i _ (h.srt i (by omega)) (by omega)
end Go.Proofs.YtdikfldogmbeaaaDoor.Bd
