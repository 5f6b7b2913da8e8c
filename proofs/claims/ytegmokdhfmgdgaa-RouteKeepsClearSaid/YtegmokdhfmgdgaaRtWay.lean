/- Straight ways between points, and what is left of a way without the points at which it does not turn. Nothing here speaks of a program. -/
import Derived.Test.YtegmokdhfmgdgaaRtTrail
namespace Go.Frm.Rt
open Go.RowKit Go.Frm

abbrev Pt := Int × Int
structure Fr where
  x0 : Int
  y0 : Int
  x1 : Int
  y1 : Int
def mnI (a b : Int) : Int := if b < a then b else a
def mxI (a b : Int) : Int := if a < b then b else a
/-- does a straight line enter a rectangle -/
def Hits (f : Fr) (a b : Pt) : Prop := mnI a.1 b.1 < f.x1 ∧ f.x0 < mxI a.1 b.1 ∧ mnI a.2 b.2 < f.y1 ∧ f.y0 < mxI a.2 b.2
def dist (a b : Pt) : Int := mxI (b.1 - a.1) (a.1 - b.1) + mxI (b.2 - a.2) (a.2 - b.2)
/-- a straight line in a direction -/
def Str (d : Nat) (a b : Pt) (w : Int) : Prop :=
  (d = 0 ∧ b.2 = a.2 ∧ a.1 < b.1 ∧ w = b.1 - a.1) ∨ (d = 1 ∧ b.1 = a.1 ∧ a.2 < b.2 ∧ w = b.2 - a.2) ∨ (d = 2 ∧ b.2 = a.2 ∧ b.1 < a.1 ∧ w = a.1 - b.1) ∨ (d = 3 ∧ b.1 = a.1 ∧ b.2 < a.2 ∧ w = a.2 - b.2)
/-- it enters no rectangle that has an inner part -/
def Clear (fs : List Fr) (a b : Pt) : Prop := ∀ f, f ∈ fs → f.x0 < f.x1 → f.y0 < f.y1 → ¬ Hits f a b
theorem Str.trans {d : Nat} {a b c : Pt} {w v : Int} (h : Str d a b w) (h' : Str d b c v) : Str d a c (w + v) := by unfold Str at *; omega
theorem Str.dist {d : Nat} {a b : Pt} {w : Int} (h : Str d a b w) : dist a b = w := by
  unfold Rt.dist mxI
  unfold Str at h
  rcases h with ⟨_, h1, h2, h3⟩ | ⟨_, h1, h2, h3⟩ | ⟨_, h1, h2, h3⟩ | ⟨_, h1, h2, h3⟩ <;> split <;> split <;> omega
theorem clear_trans {fs : List Fr} {d : Nat} {a b c : Pt} {w v : Int} (h : Str d a b w) (h' : Str d b c v) (k : Clear fs a b) (k' : Clear fs b c) : Clear fs a c := by
  intro f hf hx hy hh
  have h1 := k f hf hx hy
  have h2 := k' f hf hx hy
  unfold Hits mnI mxI at *
  unfold Str at h h'
  rcases h with ⟨_, g1, g2, g3⟩ | ⟨_, g1, g2, g3⟩ | ⟨_, g1, g2, g3⟩ | ⟨_, g1, g2, g3⟩ <;>
    rcases h' with ⟨_, e1, e2, e3⟩ | ⟨_, e1, e2, e3⟩ | ⟨_, e1, e2, e3⟩ | ⟨_, e1, e2, e3⟩ <;> first | omega | skip
  all_goals (split at hh <;> split at hh <;> split at hh <;> split at hh <;> first | omega | skip)
  all_goals (split at h1 <;> split at h1 <;> split at h1 <;> split at h1 <;> first | omega | skip)
  all_goals (split at h2 <;> split at h2 <;> split at h2 <;> split at h2 <;> omega)
/-- a way of straight lines, the last point first: its points, its last direction, its turns and length -/
inductive Wy (fs : List Fr) (s : Pt) : List Pt → Nat → Co → Prop
  | one {b : Pt} {d : Nat} {w : Int} (h : Str d s b w) (k : Clear fs s b) : Wy fs s [b, s] d ⟨0, w⟩
  | turn {a b : Pt} {l : List Pt} {d d' : Nat} {c : Co} {w : Int} (h : Wy fs s (a :: l) d c) (h' : Str d' a b w) (k : Clear fs a b) (hne : d' % 2 ≠ d % 2) : Wy fs s (b :: a :: l) d' ⟨c.b + 1, c.l + w⟩
theorem Wy.extend {fs : List Fr} {s a b : Pt} {l : List Pt} {d : Nat} {c : Co} {w : Int} (h : Wy fs s (a :: l) d c) (h' : Str d a b w) (k : Clear fs a b) : Wy fs s (b :: l) d ⟨c.b, c.l + w⟩ := by
  cases h with
  | one h1 k1 => exact Wy.one (h1.trans h') (clear_trans h1 h' k1 k)
  | turn h1 h2 k2 hne =>
    have := Wy.turn h1 (h2.trans h') (clear_trans h2 h' k2 k) hne
    show Wy fs s _ d ⟨_, _ + _ + w⟩
    rwa [Int.add_assoc]
/-- a point at which a way may turn -/
def colB (a b c : Pt) : Bool := (a.1 == b.1 && b.1 == c.1) || (a.2 == b.2 && b.2 == c.2)
/-- the numbers below k of the points that are kept -/
def kept (P : Nat → Pt) : Nat → List Nat
  | 0 => []
  | k + 1 => kept P k ++ if decide (0 < k) && colB (P (k - 1)) (P k) (P (k + 1)) then [] else [k]
/-- a way of n points without those at which it does not turn -/
def short (P : Nat → Pt) (n : Nat) : List Pt := (kept P (n - 1)).map P ++ [P (n - 1)]
theorem kept_congr {P Q : Nat → Pt} : ∀ k, (∀ i, i ≤ k → P i = Q i) → kept P k = kept Q k
  | 0, _ => rfl
  | k + 1, h => by
    unfold kept
    rw [kept_congr k (fun i hi => h i (by omega)), h (k + 1) (Nat.le_refl _), h k (by omega), h (k - 1) (by omega)]
theorem kept_lt {P : Nat → Pt} : ∀ k i, i ∈ kept P k → i < k
  | 0, i, h => by cases h
  | k + 1, i, h => by
    unfold kept at h
    rcases List.mem_append.1 h with h1 | h1
    · have := kept_lt k i h1
      omega
    · split at h1
      · cases h1
      · obtain rfl : i = k := by simpa using h1
        omega
section
variable {E : Net} {first : Int} {sx sy : Nat} {X Y : Nat → Int} {fs : List Fr}
def ptOf (X Y : Nat → Int) (ps : List (Nat × Nat)) (i : Nat) : Pt := (X (ps.getD i (0, 0)).1, Y (ps.getD i (0, 0)).2)
theorem ptOf_append_left {ps : List (Nat × Nat)} {q : Nat × Nat} {i : Nat} (h : i < ps.length) : ptOf X Y (ps ++ [q]) i = ptOf X Y ps i := by
  unfold ptOf
  rw [List.getD_eq_getElem?_getD, List.getD_eq_getElem?_getD, List.getElem?_append_left h]
theorem ptOf_append_last {ps : List (Nat × Nat)} {q : Nat × Nat} : ptOf X Y (ps ++ [q]) ps.length = (X q.1, Y q.2) := by
  unfold ptOf
  rw [List.getD_eq_getElem?_getD, List.getElem?_append_right (Nat.le_refl _), Nat.sub_self]
  rfl
/-- a way on a net whose steps are straight and clear -/
theorem pth_wy (hE : ∀ x y d x' y' w, d < 4 → E x y d = some (x', y', w) → Str d (X x, Y y) (X x', Y y') w ∧ Clear fs (X x, Y y) (X x', Y y')) {ds : List Nat} {ps : List (Nat × Nat)} {x y d : Nat} {c : Co} (h : Pth E first sx sy ds ps x y d c) :
    2 ≤ ps.length ∧ d < 4 ∧ ptOf X Y ps 0 = (X sx, Y sy) ∧ ptOf X Y ps (ps.length - 1) = (X x, Y y) ∧ (∃ w, Str d (ptOf X Y ps (ps.length - 2)) (ptOf X Y ps (ps.length - 1)) w) ∧ Wy fs (X sx, Y sy) (short (ptOf X Y ps) ps.length).reverse d c := by
  induction h with
  | @one d x y w hd hf hE1 =>
    obtain ⟨h1, h2⟩ := hE _ _ _ _ _ _ hd hE1
    refine ⟨by simp, hd, rfl, rfl, ⟨w, h1⟩, ?_⟩
    show Wy fs (X sx, Y sy) [(X x, Y y), (X sx, Y sy)] d ⟨0, w⟩
    exact Wy.one h1 h2
  | @next ds ps x y d c d' x' y' w h hd hr hE1 ih =>
    obtain ⟨i1, i2, i3, i4, ⟨v, i5⟩, i6⟩ := ih
    obtain ⟨h1, h2⟩ := hE _ _ _ _ _ _ hd hE1
    obtain ⟨n, hn⟩ : ∃ n, ps.length = n + 2 := ⟨ps.length - 2, by omega⟩
    have hl : (ps ++ [(x', y')]).length = n + 3 := by simp [hn]
    rw [hn] at i4 i5 i6
    rw [show n + 2 - 1 = n + 1 by omega] at i4 i5
    rw [show n + 2 - 2 = n by omega] at i5
    have eP : ∀ i, i < n + 2 → ptOf X Y (ps ++ [(x', y')]) i = ptOf X Y ps i := fun i hi => ptOf_append_left (by omega)
    have eL : ptOf X Y (ps ++ [(x', y')]) (n + 2) = (X x', Y y') := by rw [← hn]; exact ptOf_append_last
    rw [hl, show n + 3 - 1 = n + 2 by omega, show n + 3 - 2 = n + 1 by omega, eP 0 (by omega), eP (n + 1) (by omega), eL, i4]
    refine ⟨by omega, hd, i3, rfl, ⟨w, h1⟩, ?_⟩
    have hs : short (ptOf X Y ps) (n + 2) = (kept (ptOf X Y ps) (n + 1)).map (ptOf X Y ps) ++ [(X x, Y y)] := by
      unfold short
      rw [show n + 2 - 1 = n + 1 by omega, i4]
    have hk : kept (ptOf X Y (ps ++ [(x', y')])) (n + 1) = kept (ptOf X Y ps) (n + 1) := kept_congr _ fun i hi => eP i (by omega)
    have hmap : (kept (ptOf X Y ps) (n + 1)).map (ptOf X Y (ps ++ [(x', y')])) = (kept (ptOf X Y ps) (n + 1)).map (ptOf X Y ps) := List.map_congr_left fun i hi => eP i (by have := kept_lt _ _ hi; omega)
    have hs2 : short (ptOf X Y (ps ++ [(x', y')])) (n + 3) = (kept (ptOf X Y ps) (n + 1)).map (ptOf X Y ps) ++ (if colB (ptOf X Y ps n) (X x, Y y) (X x', Y y') then [] else [(X x, Y y)]) ++ [(X x', Y y')] := by
      unfold short
      rw [show n + 3 - 1 = n + 2 by omega, eL]
      show (kept _ (n + 1) ++ if _ then [] else [n + 1]).map _ ++ _ = _
      rw [hk, List.map_append, hmap, show decide (0 < n + 1) = true by simp, Bool.true_and, show n + 1 - 1 = n by omega, eP n (by omega), eP (n + 1) (by omega), eL, i4]
      congr 1
      congr 1
      split
      · rfl
      · show [ptOf X Y (ps ++ [(x', y')]) (n + 1)] = _
        rw [eP (n + 1) (by omega), i4]
    rw [hs2]
    rw [hs, List.reverse_append] at i6
    rw [i4] at i5
    have i6' : Wy fs (X sx, Y sy) ((X x, Y y) :: ((kept (ptOf X Y ps) (n + 1)).map (ptOf X Y ps)).reverse) d c := i6
    by_cases e : d' = d
    · subst e
      have hcol : colB (ptOf X Y ps n) (X x, Y y) (X x', Y y') = true := by
        unfold colB
        unfold Str at i5 h1
        simp only [Bool.or_eq_true, Bool.and_eq_true, beq_iff_eq]
        rcases i5 with ⟨g0, g1, g2, g3⟩ | ⟨g0, g1, g2, g3⟩ | ⟨g0, g1, g2, g3⟩ | ⟨g0, g1, g2, g3⟩ <;> rcases h1 with ⟨k0, k1, k2, k3⟩ | ⟨k0, k1, k2, k3⟩ | ⟨k0, k1, k2, k3⟩ | ⟨k0, k1, k2, k3⟩ <;> first | omega | (right; exact ⟨g1.symm, k1.symm⟩) | (left; exact ⟨g1.symm, k1.symm⟩)
      rw [hcol, if_pos rfl, List.append_nil, List.reverse_append]
      have := i6'.extend h1 h2
      have hb : (c.add (bend d' d') w) = ⟨c.b, c.l + w⟩ := by
        show (⟨c.b + bend d' d', c.l + w⟩ : Co) = _
        unfold bend
        rw [if_pos rfl, Int.add_zero]
      rw [hb]
      exact this
    · have hpar : d' % 2 ≠ d % 2 := by omega
      have hcol : colB (ptOf X Y ps n) (X x, Y y) (X x', Y y') = false := by
        unfold colB
        unfold Str at i5 h1
        rw [Bool.or_eq_false_iff, Bool.and_eq_false_iff, Bool.and_eq_false_iff]
        simp only [beq_eq_false_iff_ne, ne_eq]
        rcases i5 with ⟨g0, g1, g2, g3⟩ | ⟨g0, g1, g2, g3⟩ | ⟨g0, g1, g2, g3⟩ | ⟨g0, g1, g2, g3⟩ <;> rcases h1 with ⟨k0, k1, k2, k3⟩ | ⟨k0, k1, k2, k3⟩ | ⟨k0, k1, k2, k3⟩ | ⟨k0, k1, k2, k3⟩ <;> omega
      rw [hcol, if_neg (by decide), List.reverse_append, List.reverse_append]
      have := Wy.turn i6' h1 h2 hpar
      have hb : (c.add (bend d d') w) = ⟨c.b + 1, c.l + w⟩ := by
        show (⟨c.b + bend d d', c.l + w⟩ : Co) = _
        unfold bend
        rw [if_neg e]
      rw [hb]
      exact this
end
/-- the length of a list of points -/
def lenP : List Pt → Int
  | [] => 0
  | [_] => 0
  | a :: b :: l => dist b a + lenP (b :: l)
theorem Wy.meas {fs : List Fr} {s : Pt} {l : List Pt} {d : Nat} {c : Co} (h : Wy fs s l d c) : (l.length : Int) = c.b + 2 ∧ lenP l = c.l := by
  induction h with
  | one h k =>
    refine ⟨rfl, ?_⟩
    show dist s _ + 0 = _
    rw [h.dist, Int.add_zero]
  | @turn a b l d d' c w h h' k hne ih =>
    refine ⟨by simp only [List.length_cons] at *; omega, ?_⟩
    show dist a b + lenP (a :: l) = c.l + w
    rw [h'.dist, ih.2]
    omega
end Go.Frm.Rt
