/- The axis of a mirrored drawing. Nothing here speaks of a program. -/
import Derived.Test.YtegmokdhfmgdgaaRtMirPlain
namespace Go.Proofs.Ytegmokdhfmgdgaa.Rt
open Go.RowKit Go.Frm Go.Frm.Rt

def neg (x : Int) : Int := -x
theorem inc_mir {l : List Int} (h : Inc l) : Inc (l.map neg).reverse := by
  unfold Inc
  rw [List.pairwise_reverse, List.pairwise_map]
  exact h.imp (fun {a b} hab => by unfold neg; omega)
theorem axis_mir {l l' : List Int} (h0 : 0 < l.length) (h0' : 0 < l'.length) (h : ∀ x, x ∈ l' ↔ -x ∈ l) : axis l' = ((axis l).map neg).reverse := by
  obtain ⟨i1, m1⟩ := axis_spec l
  obtain ⟨i2, m2⟩ := axis_spec l'
  have a1 := minOf_spec h0
  have a2 := minOf_spec h0'
  have b1 := maxOf_spec h0
  have b2 := maxOf_spec h0'
  have e1 : Lib.minOf l' = -Lib.maxOf l := by
    have h1 := b1.2 _ ((h _).1 a2.1)
    have h2 := a2.2 (-Lib.maxOf l) ((h _).2 (by rw [Int.neg_neg]; exact b1.1))
    omega
  have e2 : Lib.maxOf l' = -Lib.minOf l := by
    have h1 := a1.2 _ ((h _).1 b2.1)
    have h2 := b2.2 (-Lib.minOf l) ((h _).2 (by rw [Int.neg_neg]; exact a1.1))
    omega
  refine inc_uniq i2 (inc_mir i1) (fun x => ?_)
  rw [m2, List.mem_reverse, List.mem_map, e1, e2]
  simp only [List.mem_append, List.mem_cons, List.not_mem_nil, or_false]
  constructor
  · intro hx
    refine ⟨-x, (m1 _).2 ?_, by unfold neg; omega⟩
    simp only [List.mem_append, List.mem_cons, List.not_mem_nil, or_false]
    rcases hx with hx | hx | hx
    · exact .inl ((h x).1 hx)
    · exact .inr (.inr (by omega))
    · exact .inr (.inl (by omega))
  · rintro ⟨y, hy, rfl⟩
    have hy2 := (m1 _).1 hy
    simp only [List.mem_append, List.mem_cons, List.not_mem_nil, or_false] at hy2
    unfold neg
    rcases hy2 with hy2 | hy2 | hy2
    · exact .inl ((h _).2 (by rw [Int.neg_neg]; exact hy2))
    · exact .inr (.inr (by omega))
    · exact .inr (.inl (by omega))
theorem ix_mir {l : List Int} {i : Nat} (h : i < l.length) : ix ((l.map neg).reverse) i = -ix l (l.length - 1 - i) := by
  rw [ix_eq (by simpa using h), ix_eq (show l.length - 1 - i < l.length by omega), List.getElem_reverse, List.getElem_map]
  unfold neg
  simp
theorem pos_mir {l : List Int} (h : Inc l) {x : Int} (hx : x ∈ l) : pos ((l.map neg).reverse) (-x) = l.length - 1 - pos l x := by
  have hm : -x ∈ (l.map neg).reverse := by rw [List.mem_reverse, List.mem_map]; exact ⟨x, hx, rfl⟩
  obtain ⟨a1, a2⟩ := inc_pos h hx
  obtain ⟨b1, b2⟩ := inc_pos (inc_mir h) hm
  have hl : (l.map neg).reverse.length = l.length := by simp
  rw [hl] at b1
  rw [ix_mir b1] at b2
  have e : ix l (l.length - 1 - pos ((l.map neg).reverse) (-x)) = ix l (pos l x) := by rw [a2]; omega
  have := inc_ix h
  rcases Nat.lt_trichotomy (l.length - 1 - pos ((l.map neg).reverse) (-x)) (pos l x) with h1 | h1 | h1
  · have := this _ _ h1 a1
    omega
  · omega
  · have := this _ _ h1 (by omega)
    omega
theorem crd_mir (a b : Int) (fs : Nat → Fr) (n : Nat) (x : Int) : x ∈ crd (-a) (-b) (frP fun i => mirF (fs i)) n ↔ -x ∈ crd a b (frP fs) n := by
  unfold crd
  simp only [List.mem_append, List.mem_cons, List.not_mem_nil, or_false, List.mem_flatMap, List.mem_range, frP, mirF]
  constructor
  · rintro ((h | h) | ⟨i, hi, h | h⟩)
    · exact .inl (.inl (by omega))
    · exact .inl (.inr (by omega))
    · exact .inr ⟨i, hi, .inr (by omega)⟩
    · exact .inr ⟨i, hi, .inl (by omega)⟩
  · rintro ((h | h) | ⟨i, hi, h | h⟩)
    · exact .inl (.inl (by omega))
    · exact .inl (.inr (by omega))
    · exact .inr ⟨i, hi, .inr (by omega)⟩
    · exact .inr ⟨i, hi, .inl (by omega)⟩
theorem axX_mir (p q : Pt) (fs : Nat → Fr) (n : Nat) : axX (mirP p) (mirP q) (fun i => mirF (fs i)) n = ((axX p q fs n).map neg).reverse :=
  axis_mir (by unfold crd; simp) (by unfold crd; simp) (fun x => crd_mir p.1 q.1 fs n x)
theorem axY_mir (p q : Pt) (fs : Nat → Fr) (n : Nat) : axY (mirP p) (mirP q) (fun i => mirF (fs i)) n = axY p q fs n := rfl
end Go.Proofs.Ytegmokdhfmgdgaa.Rt
