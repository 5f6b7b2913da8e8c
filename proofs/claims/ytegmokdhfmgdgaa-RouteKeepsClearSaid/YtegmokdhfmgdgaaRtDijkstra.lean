/- Ways of least cost in plain Lean: what is kept by a search that settles the cheapest state first. Nothing here speaks of a program. -/
import Derived.Test.YtegmokdhfmgdgaaSlices
namespace Go.Frm.Rt
open Go.RowKit Go.Frm

/-- what a way costs: bends first, then its length -/
structure Co where
  b : Int
  l : Int
def Co.lt (a c : Co) : Prop := a.b < c.b ∨ (a.b = c.b ∧ a.l < c.l)
theorem not_lt_trans {a b c : Co} (h1 : ¬ Co.lt b a) (h2 : ¬ Co.lt c b) : ¬ Co.lt c a := by unfold Co.lt at *; omega
theorem not_lt_refl (a : Co) : ¬ Co.lt a a := by unfold Co.lt; omega
theorem lt_asymm {a b : Co} (h : Co.lt a b) : ¬ Co.lt b a := by unfold Co.lt at *; omega
def Co.add (a : Co) (e w : Int) : Co := ⟨a.b + e, a.l + w⟩
theorem add_mono {a b : Co} (h : ¬ Co.lt b a) (e w : Int) : ¬ Co.lt (b.add e w) (a.add e w) := by unfold Co.lt Co.add at *; simp only; omega
theorem add_ge (a : Co) {e w : Int} (he : 0 ≤ e) (hw : 0 ≤ w) : ¬ Co.lt (a.add e w) a := by unfold Co.lt Co.add; simp only; omega
/-- a place with the direction in which it was reached -/
structure St where
  x : Nat
  y : Nat
  d : Nat
  co : Co
  back : Int
/-- a net: from a place in a direction to a place, and how long that is -/
abbrev Net := Nat → Nat → Nat → Option (Nat × Nat × Int)
def dirOk (z : Int) (d : Nat) : Prop := z = -1 ∨ z = (d : Int)
def bend (d d' : Nat) : Int := if d' = d then 0 else 1
theorem bend_nn (d d' : Nat) : 0 ≤ bend d d' := by unfold bend; split <;> omega
/-- ways: their directions, their places, the last place, direction and cost -/
inductive Pth (E : Net) (first : Int) (sx sy : Nat) : List Nat → List (Nat × Nat) → Nat → Nat → Nat → Co → Prop
  | one {d x y : Nat} {w : Int} (hd : d < 4) (hf : dirOk first d) (hE : E sx sy d = some (x, y, w)) : Pth E first sx sy [d] [(sx, sy), (x, y)] x y d ⟨0, w⟩
  | next {ds : List Nat} {ps : List (Nat × Nat)} {x y d : Nat} {c : Co} {d' x' y' : Nat} {w : Int} (h : Pth E first sx sy ds ps x y d c) (hd : d' < 4) (hr : (d' + 2) % 4 ≠ d) (hE : E x y d' = some (x', y', w)) :
      Pth E first sx sy (ds ++ [d']) (ps ++ [(x', y')]) x' y' d' (c.add (bend d d') w)
/-- one state follows another one -/
def Follows (E : Net) (first : Int) (p s : St) : Prop :=
  s.d < 4 ∧ ((p.back < 0 ∧ dirOk first s.d ∧ ∃ w, E p.x p.y s.d = some (s.x, s.y, w) ∧ s.co = p.co.add 0 w) ∨ (0 ≤ p.back ∧ (s.d + 2) % 4 ≠ p.d ∧ ∃ w, E p.x p.y s.d = some (s.x, s.y, w) ∧ s.co = p.co.add (bend p.d s.d) w))
/-- what follows a state in a direction -/
def may (first : Int) (p : St) (d : Nat) : Prop := if p.back < 0 then dirOk first d else (d + 2) % 4 ≠ p.d
def extra (p : St) (d : Nat) : Int := if p.back < 0 then 0 else bend p.d d
def succS (p : St) (k : Nat) (d x y : Nat) (w : Int) : St := ⟨x, y, d, p.co.add (extra p d) w, (k : Int)⟩
structure Dj (E : Net) (first : Int) (sx sy : Nat) (cl : Nat → St) (m : Nat) (dn : Nat → Nat → Nat → Bool) (Q : St → Prop) : Prop where
  m1 : 1 ≤ m
  st : cl 0 = ⟨sx, sy, 0, ⟨0, 0⟩, -1⟩
  qok : ∀ s, Q s → ∃ k : Nat, s.back = k ∧ k < m ∧ Follows E first (cl k) s
  cok : ∀ i, 1 ≤ i → i < m → ∃ k : Nat, (cl i).back = k ∧ k < i ∧ Follows E first (cl k) (cl i)
  dnc : ∀ i, 1 ≤ i → i < m → dn (cl i).x (cl i).y (cl i).d = true
  cld : ∀ x y d, dn x y d = true → ∃ i, 1 ≤ i ∧ i < m ∧ (cl i).x = x ∧ (cl i).y = y ∧ (cl i).d = d
  clo : ∀ i, i < m → ∀ d x y w, d < 4 → may first (cl i) d → E (cl i).x (cl i).y d = some (x, y, w) →
    (∃ j, 1 ≤ j ∧ j < m ∧ (cl j).x = x ∧ (cl j).y = y ∧ (cl j).d = d ∧ ¬ Co.lt ((cl i).co.add (extra (cl i) d) w) (cl j).co) ∨ ∃ s, Q s ∧ s.x = x ∧ s.y = y ∧ s.d = d ∧ ¬ Co.lt ((cl i).co.add (extra (cl i) d) w) s.co
  mono : ∀ i, 1 ≤ i → i < m → ∀ s, Q s → ¬ Co.lt s.co (cl i).co
section
variable {E : Net} {first : Int} {sx sy : Nat} {cl : Nat → St} {m : Nat} {dn : Nat → Nat → Nat → Bool} {Q : St → Prop}
theorem back_nn (h : Dj E first sx sy cl m dn Q) {i : Nat} (h1 : 1 ≤ i) (h2 : i < m) : ¬ (cl i).back < 0 := by
  obtain ⟨k, hk, _⟩ := h.cok i h1 h2
  omega
/-- whatever can be reached is settled at no greater cost, or something that waits costs no more -/
theorem Dj.front (hE : ∀ x y d x' y' w, E x y d = some (x', y', w) → 0 ≤ w) (h : Dj E first sx sy cl m dn Q) {ds : List Nat} {ps : List (Nat × Nat)} {x y d : Nat} {c : Co} (hp : Pth E first sx sy ds ps x y d c) :
    (∃ j, 1 ≤ j ∧ j < m ∧ (cl j).x = x ∧ (cl j).y = y ∧ (cl j).d = d ∧ ¬ Co.lt c (cl j).co) ∨ ∃ s, Q s ∧ ¬ Co.lt c s.co := by
  induction hp with
  | @one d x y w hd hf hE1 =>
    have h0 := h.st
    have hm : may first (cl 0) d := by
      unfold may
      rw [h0, if_pos (by show (-1 : Int) < 0; decide)]
      exact hf
    have hx : extra (cl 0) d = 0 := by
      unfold extra
      rw [h0, if_pos (by show (-1 : Int) < 0; decide)]
    have hc := h.clo 0 h.m1 d x y w hd hm (by rw [h0]; exact hE1)
    rw [hx, show (cl 0).co.add 0 w = ⟨0, w⟩ by rw [h0]; show Co.mk (0 + 0) (0 + w) = _; congr 1; omega] at hc
    rcases hc with hc | ⟨s, h1, _, _, _, h2⟩
    · exact .inl hc
    · exact .inr ⟨s, h1, h2⟩
  | @next ds ps x y d c d' x' y' w hp hd hr hE1 ih =>
    have hw := hE _ _ _ _ _ _ hE1
    rcases ih with ⟨j, h1, h2, e1, e2, e3, h3⟩ | ⟨s, h1, h2⟩
    · have hbk := back_nn h h1 h2
      have hm : may first (cl j) d' := by
        unfold may
        rw [if_neg hbk, e3]
        exact hr
      have hx : extra (cl j) d' = bend d d' := by
        unfold extra
        rw [if_neg hbk, e3]
      have hc := h.clo j h2 d' x' y' w hd hm (by rw [e1, e2]; exact hE1)
      rw [hx] at hc
      have hle := add_mono h3 (bend d d') w
      rcases hc with ⟨i, g1, g2, g3, g4, g5, g6⟩ | ⟨s, g1, _, _, _, g6⟩
      · exact .inl ⟨i, g1, g2, g3, g4, g5, not_lt_trans g6 hle⟩
      · exact .inr ⟨s, g1, not_lt_trans g6 hle⟩
    · exact .inr ⟨s, h1, not_lt_trans h2 (add_ge c (bend_nn d d') hw)⟩
/-- the cheapest that waits is taken, and it is settled already -/
theorem Dj.drop (h : Dj E first sx sy cl m dn Q) {s : St} (hs : Q s) (hdn : dn s.x s.y s.d = true) {Q' : St → Prop} (hq1 : ∀ t, Q' t → Q t) (hq2 : ∀ t, Q t → Q' t ∨ t = s) : Dj E first sx sy cl m dn Q' :=
  ⟨h.m1, h.st, fun t ht => h.qok t (hq1 t ht), h.cok, h.dnc, h.cld, fun i hi d x y w hd hm hE => by
    rcases h.clo i hi d x y w hd hm hE with h1 | ⟨t, h1, h2, h3, h4, h5⟩
    · exact .inl h1
    · rcases hq2 t h1 with h6 | h6
      · exact .inr ⟨t, h6, h2, h3, h4, h5⟩
      · subst h6
        obtain ⟨j, g1, g2, g3, g4, g5⟩ := h.cld _ _ _ hdn
        exact .inl ⟨j, g1, g2, by rw [g3, h2], by rw [g4, h3], by rw [g5, h4], not_lt_trans (h.mono j g1 g2 t h1) h5⟩,
    fun i h1 h2 t ht => h.mono i h1 h2 t (hq1 t ht)⟩
/-- it is settled now, and what follows it waits -/
theorem Dj.settle (hE : ∀ x y d x' y' w, E x y d = some (x', y', w) → 0 ≤ w) (h : Dj E first sx sy cl m dn Q) {s : St} (hs : Q s) (hmin : ∀ t, Q t → ¬ Co.lt t.co s.co) {Q' : St → Prop} {cl' : Nat → St} {dn' : Nat → Nat → Nat → Bool}
    (hc1 : ∀ i, i < m → cl' i = cl i) (hc2 : cl' m = s) (hd1 : ∀ x y d, dn' x y d = true ↔ dn x y d = true ∨ (x = s.x ∧ y = s.y ∧ d = s.d))
    (hq1 : ∀ t, Q' t → Q t ∨ ∃ d x y w, d < 4 ∧ may first s d ∧ E s.x s.y d = some (x, y, w) ∧ t = succS s m d x y w)
    (hq2 : ∀ t, Q t → Q' t ∨ t = s) (hq3 : ∀ d x y w, d < 4 → may first s d → E s.x s.y d = some (x, y, w) → dn' x y d = true ∨ Q' (succS s m d x y w)) : Dj E first sx sy cl' (m + 1) dn' Q' := by
  have hm1 := h.m1
  obtain ⟨k0, hk0, hk1, hfol⟩ := h.qok s hs
  have hsb : ¬ s.back < 0 := by omega
  have hfs : ∀ d x y w, may first s d → d < 4 → E s.x s.y d = some (x, y, w) → Follows E first s (succS s m d x y w) := fun d x y w hmy hd hE1 => by
    refine ⟨hd, .inr ⟨by omega, ?_, w, hE1, ?_⟩⟩
    · unfold may at hmy
      rw [if_neg hsb] at hmy
      exact hmy
    · show s.co.add (extra s d) w = s.co.add (bend s.d d) w
      unfold extra
      rw [if_neg hsb]
  have hex : ∀ d, 0 ≤ extra s d := fun d => by
    unfold extra
    split
    · omega
    · exact bend_nn _ _
  refine ⟨by omega, by rw [hc1 0 (by omega)]; exact h.st, fun t ht => ?_, fun i h1 h2 => ?_, fun i h1 h2 => ?_, fun x y d hd => ?_, fun i hi d x y w hd hmy hE1 => ?_, fun i h1 h2 t ht => ?_⟩
  · rcases hq1 t ht with h1 | ⟨d, x, y, w, h1, h2, h3, rfl⟩
    · obtain ⟨k, g1, g2, g3⟩ := h.qok t h1
      exact ⟨k, g1, by omega, by rw [hc1 k g2]; exact g3⟩
    · exact ⟨m, rfl, by omega, by rw [hc2]; exact hfs d x y w h2 h1 h3⟩
  · by_cases e : i = m
    · subst e
      rw [hc2]
      exact ⟨k0, hk0, hk1, by rw [hc1 k0 hk1]; exact hfol⟩
    · obtain ⟨k, g1, g2, g3⟩ := h.cok i h1 (by omega)
      rw [hc1 i (by omega)]
      exact ⟨k, g1, g2, by rw [hc1 k (by omega)]; exact g3⟩
  · rw [hd1]
    by_cases e : i = m
    · subst e
      rw [hc2]
      exact .inr ⟨rfl, rfl, rfl⟩
    · rw [hc1 i (by omega)]
      exact .inl (h.dnc i h1 (by omega))
  · rcases (hd1 x y d).1 hd with h1 | ⟨h1, h2, h3⟩
    · obtain ⟨i, g1, g2, g3⟩ := h.cld x y d h1
      exact ⟨i, g1, by omega, by rw [hc1 i g2]; exact g3⟩
    · exact ⟨m, hm1, by omega, by rw [hc2]; exact ⟨h1.symm, h2.symm, h3.symm⟩⟩
  · by_cases e : i = m
    · subst e
      rw [hc2] at hmy hE1 ⊢
      have hge := add_ge s.co (hex d) (hE _ _ _ _ _ _ hE1)
      rcases hq3 d x y w hd hmy hE1 with h1 | h1
      · left
        rcases (hd1 x y d).1 h1 with h2 | ⟨h2, h3, h4⟩
        · obtain ⟨j, g1, g2, g3, g4, g5⟩ := h.cld x y d h2
          refine ⟨j, g1, by omega, ?_⟩
          rw [hc1 j g2]
          exact ⟨g3, g4, g5, not_lt_trans (h.mono j g1 g2 s hs) hge⟩
        · refine ⟨i, hm1, by omega, ?_⟩
          rw [hc2]
          exact ⟨h2.symm, h3.symm, h4.symm, hge⟩
      · exact .inr ⟨_, h1, rfl, rfl, rfl, not_lt_refl _⟩
    · have hi' : i < m := by omega
      rw [hc1 i hi'] at hmy hE1 ⊢
      rcases h.clo i hi' d x y w hd hmy hE1 with ⟨j, g1, g2, g3⟩ | ⟨t, g1, g2, g3, g4, g5⟩
      · exact .inl ⟨j, g1, by omega, by rw [hc1 j g2]; exact g3⟩
      · rcases hq2 t g1 with h6 | h6
        · exact .inr ⟨t, h6, g2, g3, g4, g5⟩
        · subst h6
          exact .inl ⟨m, hm1, by omega, by rw [hc2]; exact ⟨g2, g3, g4, g5⟩⟩
  · have hold : ∀ t, Q' t → ¬ Co.lt t.co s.co := fun t ht => by
      rcases hq1 t ht with g1 | ⟨d, x, y, w, g1, g2, g3, rfl⟩
      · exact hmin t g1
      · exact add_ge s.co (hex d) (hE _ _ _ _ _ _ g3)
    by_cases e : i = m
    · subst e
      rw [hc2]
      exact hold t ht
    · rw [hc1 i (by omega)]
      exact not_lt_trans (h.mono i h1 (by omega) s hs) (hold t ht)
/-- the start -/
theorem Dj.begin {Q' : St → Prop} {cl' : Nat → St} (hc : cl' 0 = ⟨sx, sy, 0, ⟨0, 0⟩, -1⟩)
    (hq1 : ∀ t, Q' t → ∃ d x y w, d < 4 ∧ may first (cl' 0) d ∧ E sx sy d = some (x, y, w) ∧ t = succS (cl' 0) 0 d x y w)
    (hq3 : ∀ d x y w, d < 4 → may first (cl' 0) d → E sx sy d = some (x, y, w) → Q' (succS (cl' 0) 0 d x y w)) : Dj E first sx sy cl' 1 (fun _ _ _ => false) Q' := by
  refine ⟨Nat.le_refl _, hc, fun t ht => ?_, fun i h1 h2 => by omega, fun i h1 h2 => by omega, fun x y d hd => (by cases hd), fun i hi d x y w hd hm hE => ?_, fun i h1 h2 => by omega⟩
  · obtain ⟨d, x, y, w, h1, h2, h3, rfl⟩ := hq1 t ht
    refine ⟨0, rfl, by omega, h1, .inl ⟨by rw [hc]; exact (show (-1 : Int) < 0 by decide), ?_, w, by rw [hc]; exact h3, ?_⟩⟩
    · unfold may at h2
      rw [hc, if_pos (show (-1 : Int) < 0 by decide)] at h2
      exact h2
    · show (cl' 0).co.add (extra (cl' 0) d) w = _
      unfold extra
      rw [hc, if_pos (show (-1 : Int) < 0 by decide)]
  · obtain rfl : i = 0 := by omega
    rw [hc] at hE
    exact .inr ⟨_, hq3 d x y w hd hm hE, rfl, rfl, rfl, not_lt_refl _⟩
/-- places back to the beginning -/
def backs (cl : Nat → St) : Nat → Nat → List (Nat × Nat)
  | 0, k => [((cl k).x, (cl k).y)]
  | f + 1, k => if (cl k).back < 0 then [((cl k).x, (cl k).y)] else ((cl k).x, (cl k).y) :: backs cl f (cl k).back.toNat
/-- a settled state has a way -/
theorem Dj.way (h : Dj E first sx sy cl m dn Q) : ∀ f k, 1 ≤ k → k < m → k ≤ f → ∃ ds, Pth E first sx sy ds (backs cl f k).reverse (cl k).x (cl k).y (cl k).d (cl k).co
  | 0, k, h1, _, h3 => by omega
  | f + 1, k, h1, h2, h3 => by
    obtain ⟨k', hk, hlt, hd, hfol⟩ := h.cok k h1 h2
    have hb : backs cl (f + 1) k = ((cl k).x, (cl k).y) :: backs cl f k' := by
      show (if (cl k).back < 0 then _ else _) = _
      rw [if_neg (by omega), hk, Int.toNat_natCast]
    rw [hb, List.reverse_cons]
    rcases hfol with ⟨hbk, hf, w, hE, hco⟩ | ⟨hbk, hr, w, hE, hco⟩
    · have hk0 : k' = 0 := by
        rcases Nat.eq_zero_or_pos k' with h0 | h0
        · exact h0
        · exact absurd hbk (back_nn h h0 (by omega))
      subst hk0
      have h0 := h.st
      have hb0 : backs cl f 0 = [(sx, sy)] := by
        cases f with
        | zero => show [((cl 0).x, (cl 0).y)] = _; rw [h0]
        | succ f => show (if (cl 0).back < 0 then [((cl 0).x, (cl 0).y)] else _) = _; rw [if_pos hbk, h0]
      rw [hb0, hco, h0]
      rw [h0] at hE
      have := Pth.one (E := E) (first := first) (sx := sx) (sy := sy) hd hf hE
      refine ⟨[(cl k).d], ?_⟩
      show Pth E first sx sy _ [(sx, sy), ((cl k).x, (cl k).y)] _ _ _ (Co.mk (0 + 0) (0 + w))
      rw [show (0 : Int) + 0 = 0 by omega, Int.zero_add]
      exact this
    · have hk1 : 1 ≤ k' := by
        rcases Nat.eq_zero_or_pos k' with h0 | h0
        · subst h0
          rw [h.st] at hbk
          exact absurd hbk (show ¬ (0 : Int) ≤ -1 by decide)
        · exact h0
      obtain ⟨ds, hp⟩ := h.way f k' hk1 (by omega) (by omega)
      rw [hco]
      exact ⟨_, hp.next hd hr hE⟩
end
end Go.Frm.Rt
