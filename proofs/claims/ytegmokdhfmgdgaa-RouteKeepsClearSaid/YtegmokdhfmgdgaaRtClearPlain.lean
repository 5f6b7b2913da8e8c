/- What a way of straight lines is like, point by point. Nothing here speaks of a program. -/
import Derived.Test.YtegmokdhfmgdgaaRtWaysPlain
namespace Go.Proofs.Ytegmokdhfmgdgaa.Rt
open Go.RowKit Go.Frm Go.Frm.Rt

/-- the last point first: neighbours differ, lie on a line, turn by right angles, and nothing is entered -/
def RevOk (fs : List Fr) : List Pt → Prop
  | [] => True
  | [_] => True
  | b :: a :: l => (∃ d w, Str d a b w) ∧ Clear fs a b ∧ (∀ z, l.head? = some z → (z.1 = a.1 ↔ ¬ a.1 = b.1)) ∧ RevOk fs (a :: l)
theorem str_par {d : Nat} {a b : Pt} {w : Int} (h : Str d a b w) : a.1 = b.1 ↔ d % 2 = 1 := by
  unfold Str at h
  rcases h with ⟨rfl, h1, h2, _⟩ | ⟨rfl, h1, h2, _⟩ | ⟨rfl, h1, h2, _⟩ | ⟨rfl, h1, h2, _⟩ <;> simp <;> omega
theorem wy_head {fs : List Fr} {s : Pt} {l : List Pt} {d : Nat} {c : Co} (h : Wy fs s l d c) : RevOk fs l ∧ ∃ b a r w, l = b :: a :: r ∧ Str d a b w := by
  induction h with
  | one h k => exact ⟨⟨⟨_, _, h⟩, k, fun z hz => (by cases hz), trivial⟩, _, _, _, _, rfl, h⟩
  | @turn a b l d d' c w h h' k hne ih =>
    obtain ⟨i1, b0, a0, r, w0, e, hs⟩ := ih
    injection e with e1 e2
    subst e1 e2
    refine ⟨⟨⟨_, _, h'⟩, k, fun z hz => ?_, i1⟩, _, _, _, _, rfl, h'⟩
    obtain rfl : a0 = z := by simpa using hz
    rw [str_par hs, str_par h']
    omega
theorem str_facts {d : Nat} {a b : Pt} {w : Int} (h : Str d a b w) : a ≠ b ∧ (a.1 = b.1 ∨ a.2 = b.2) := by
  unfold Str at h
  refine ⟨fun e => ?_, ?_⟩
  · subst e
    omega
  · omega
/-- in the order of the way -/
theorem rev_get {fs : List Fr} : ∀ (l : List Pt), RevOk fs l → ∀ i, i + 1 < l.length →
    l.getD (i + 1) (0, 0) ≠ l.getD i (0, 0) ∧ ((l.getD (i + 1) (0, 0)).1 = (l.getD i (0, 0)).1 ∨ (l.getD (i + 1) (0, 0)).2 = (l.getD i (0, 0)).2) ∧ Clear fs (l.getD (i + 1) (0, 0)) (l.getD i (0, 0)) ∧
      (i + 2 < l.length → ((l.getD (i + 2) (0, 0)).1 = (l.getD (i + 1) (0, 0)).1 ↔ ¬ (l.getD (i + 1) (0, 0)).1 = (l.getD i (0, 0)).1))
  | [], _, i, h => by simp at h
  | [_], _, i, h => by simp at h
  | b :: a :: l, ⟨⟨d, w, h1⟩, h2, h3, h4⟩, 0, _ => by
    refine ⟨(str_facts h1).1, (str_facts h1).2, h2, fun h => ?_⟩
    match l, h, h3 with
    | z :: l2, _, h3 => exact h3 z rfl
    | [], h, _ => simp at h
  | b :: a :: l, ⟨_, _, _, h4⟩, i + 1, h => by
    have := rev_get (a :: l) h4 i (by simpa using h)
    simp only [List.getD_cons_succ] at *
    refine ⟨this.1, this.2.1, this.2.2.1, fun h5 => this.2.2.2 (by simp only [List.length_cons] at h5 ⊢; omega)⟩
end Go.Proofs.Ytegmokdhfmgdgaa.Rt
