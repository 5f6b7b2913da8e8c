/- The way back is as good as the way there. Nothing here speaks of a program. -/
import Derived.Test.YtegmokdhfmgdgaaRtFree
import Derived.Test.YtegmokdhfmgdgaaRtFind
namespace Go.Proofs.Ytegmokdhfmgdgaa.Rt
open Go.RowKit Go.Frm Go.Frm.Rt

section
variable {X Y : Nat → Int} {nx ny nl : Nat} {fs : Nat → Fr} {first last : Int} {sx sy tx ty : Nat}
/-- a way turned round -/
theorem pth_back (h1 : -1 ≤ first ∧ first ≤ 3) (h2 : -1 ≤ last ∧ last ≤ 3) (hx : sx < nx) (hy : sy < ny) {ds : List Nat} {ps : List (Nat × Nat)} {d : Nat} {c : Co} (h : Pth (gE X Y nx ny nl fs) first sx sy ds ps tx ty d c) (hl : dirOk last d) :
    ∃ ds' ps' d', Pth (gE X Y nx ny nl fs) (opZ last) tx ty ds' ps' sx sy d' c ∧ dirOk (opZ first) d' := by
  obtain ⟨g1, _, _⟩ := pth_gR hx hy h
  obtain ⟨a, ha, ha4, hw⟩ := wd_back gR_sym h2 (wd_of_pth g1) hl
  obtain ⟨ds1, ps1, hp⟩ := pth_of_wd hw
  exact ⟨ds1, ps1, opp a, pth_gE hp, (opZ_ok h1 ha4).2 ha⟩
theorem opZ_bd {z : Int} (h : -1 ≤ z ∧ z ≤ 3) : (-1 ≤ opZ z ∧ opZ z ≤ 3) ∧ opZ (opZ z) = z := by
  unfold opZ
  split <;> (try split) <;> omega
theorem lost_back (h1 : -1 ≤ first ∧ first ≤ 3) (h2 : -1 ≤ last ∧ last ≤ 3) (hx : tx < nx) (hy : ty < ny) (h : Lost (gE X Y nx ny nl fs) first last sx sy tx ty) : Lost (gE X Y nx ny nl fs) (opZ last) (opZ first) tx ty sx sy := fun ds ps d c hp hl => by
  obtain ⟨ds', ps', d', hp', hl'⟩ := pth_back (opZ_bd h2).1 (opZ_bd h1).1 hx hy hp hl
  rw [(opZ_bd h1).2] at hp'
  rw [(opZ_bd h2).2] at hl'
  exact h _ _ _ _ hp' hl'
/-- what a way measures -/
theorem found_meas (hX : ∀ i j, i < j → j < nx → X i < X j) (hY : ∀ i j, i < j → j < ny → Y i < Y j) (hx : sx < nx) (hy : sy < ny) {l : List Pt} (h : Found (gE X Y nx ny nl fs) first last sx sy tx ty X Y l) :
    ∃ ds ps d c, Pth (gE X Y nx ny nl fs) first sx sy ds ps tx ty d c ∧ dirOk last d ∧ (∀ ds' ps' d' c', Pth (gE X Y nx ny nl fs) first sx sy ds' ps' tx ty d' c' → dirOk last d' → ¬ Co.lt c' c) ∧ (l.length : Int) = c.b + 2 ∧ lenP l.reverse = c.l := by
  obtain ⟨ds, ps, d, c, hp, hl, hm, rfl⟩ := h
  have h1 := (pth_clear hX hY hx hy hp).2.2.2.2.meas
  rw [List.length_reverse] at h1
  exact ⟨ds, ps, d, c, hp, hl, hm, h1.1, h1.2⟩
theorem co_eq {a b : Co} (h1 : ¬ Co.lt a b) (h2 : ¬ Co.lt b a) : a.b = b.b ∧ a.l = b.l := by unfold Co.lt at *; omega
theorem found_back (h1 : -1 ≤ first ∧ first ≤ 3) (h2 : -1 ≤ last ∧ last ≤ 3) (hX : ∀ i j, i < j → j < nx → X i < X j) (hY : ∀ i j, i < j → j < ny → Y i < Y j) (hx : sx < nx) (hy : sy < ny) (hx' : tx < nx) (hy' : ty < ny) {l l' : List Pt}
    (h : Found (gE X Y nx ny nl fs) first last sx sy tx ty X Y l) (h' : Found (gE X Y nx ny nl fs) (opZ last) (opZ first) tx ty sx sy X Y l') : l.length = l'.length ∧ lenP l.reverse = lenP l'.reverse := by
  obtain ⟨ds, ps, d, c, hp, hl, hm, e1, e2⟩ := found_meas hX hY hx hy h
  obtain ⟨ds', ps', d', c', hp', hl', hm', e1', e2'⟩ := found_meas hX hY hx' hy' h'
  obtain ⟨_, _, _, g1, g2⟩ := pth_back h1 h2 hx hy hp hl
  obtain ⟨_, _, _, k1, k2⟩ := pth_back (opZ_bd h2).1 (opZ_bd h1).1 hx' hy' hp' hl'
  rw [(opZ_bd h1).2] at k1
  rw [(opZ_bd h2).2] at k2
  have := co_eq (hm' _ _ _ _ g1 g2) (hm _ _ _ _ k1 k2)
  omega
theorem found_lost (h1 : -1 ≤ first ∧ first ≤ 3) (h2 : -1 ≤ last ∧ last ≤ 3) (hx : sx < nx) (hy : sy < ny) {l : List Pt} (h : Found (gE X Y nx ny nl fs) first last sx sy tx ty X Y l) (h' : Lost (gE X Y nx ny nl fs) (opZ last) (opZ first) tx ty sx sy) : False := by
  obtain ⟨ds, ps, d, c, hp, hl, hm, _⟩ := h
  obtain ⟨_, _, _, g1, g2⟩ := pth_back h1 h2 hx hy hp hl
  exact h' _ _ _ _ g1 g2
end
/-- two lists with the same members have the same axis -/
theorem axis_congr {l l' : List Int} (h0 : 0 < l.length) (h0' : 0 < l'.length) (h : ∀ x, x ∈ l ↔ x ∈ l') : axis l = axis l' := by
  obtain ⟨i1, m1⟩ := axis_spec l
  obtain ⟨i2, m2⟩ := axis_spec l'
  have a1 := minOf_spec h0
  have a2 := minOf_spec h0'
  have b1 := maxOf_spec h0
  have b2 := maxOf_spec h0'
  have e1 : Lib.minOf l = Lib.minOf l' := by
    have := a1.2 _ ((h _).2 a2.1)
    have := a2.2 _ ((h _).1 a1.1)
    omega
  have e2 : Lib.maxOf l = Lib.maxOf l' := by
    have := b1.2 _ ((h _).2 b2.1)
    have := b2.2 _ ((h _).1 b1.1)
    omega
  refine inc_uniq i1 i2 (fun x => ?_)
  rw [m1, m2, List.mem_append, List.mem_append, e1, e2, h]
theorem crd_swap (a b : Int) (p : Nat → List Int) (n : Nat) : axis (crd a b p n) = axis (crd b a p n) := by
  refine axis_congr (by unfold crd; simp) (by unfold crd; simp) (fun x => ?_)
  unfold crd
  simp only [List.mem_append, List.mem_cons, List.not_mem_nil, or_false]
  constructor
  · rintro ((h | h) | h)
    · exact .inl (.inr h)
    · exact .inl (.inl h)
    · exact .inr h
  · rintro ((h | h) | h)
    · exact .inl (.inr h)
    · exact .inl (.inl h)
    · exact .inr h
theorem obs_swap (fs : Nat → Fr) (n : Nat) (p q : Pt) (g : Int) : obs fs n q p g = obs fs n p q g := by
  unfold obs
  congr 1
  funext i
  unfold obF
  rw [Bool.or_comm (insB (fs i) q), Bool.or_comm (insB (widF (fs i) g) q)]
end Go.Proofs.Ytegmokdhfmgdgaa.Rt
