/- A search without rectangles finds a way, and what the way of Find is like. Nothing here speaks of a program. -/
import Derived.Test.YtegmokdhfmgdgaaRtBackFind
namespace Go.Proofs.Ytegmokdhfmgdgaa.Rt
open Go.RowKit Go.Frm Go.Frm.Rt

theorem pos_lt {l : List Int} (h : Inc l) {x y : Int} (hx : x ∈ l) (hy : y ∈ l) (hxy : x < y) : pos l x < pos l y := by
  obtain ⟨a1, a2⟩ := inc_pos h hx
  obtain ⟨b1, b2⟩ := inc_pos h hy
  rcases Nat.lt_trichotomy (pos l x) (pos l y) with h1 | h1 | h1
  · exact h1
  · rw [h1, b2] at a2
    omega
  · have := inc_ix h _ _ h1 a1
    omega
theorem axis_in {l : List Int} (h0 : 0 < l.length) {x : Int} (hx : x ∈ l) : 0 < pos (axis l) x ∧ pos (axis l) x + 1 < (axis l).length := by
  obtain ⟨hi, hm⟩ := axis_spec l
  have m1 : Lib.minOf l - 100 ∈ axis l := (hm _).2 (by simp)
  have m2 : Lib.maxOf l + 100 ∈ axis l := (hm _).2 (by simp)
  have m3 : x ∈ axis l := (hm _).2 (by simp [hx])
  have a1 := (minOf_spec h0).2 x hx
  have a2 := (maxOf_spec h0).2 x hx
  have p1 := pos_lt hi m1 m3 (by omega)
  have p2 := pos_lt hi m3 m2 (by omega)
  have p3 := (inc_pos hi m2).1
  omega
theorem dirOk_some {z : Int} (h : -1 ≤ z ∧ z ≤ 3) : ∃ d, d < 4 ∧ dirOk z d := by
  by_cases h1 : z = -1
  · exact ⟨0, by decide, .inl h1⟩
  · exact ⟨z.toNat, by omega, .inr (by omega)⟩
theorem spost_free {p q : Pt} {first last : Int} (h1 : -1 ≤ first ∧ first ≤ 3) (h2 : -1 ≤ last ∧ last ≤ 3) {fs : Nat → Fr} {is : Bool} {l : List Pt} (h : SPost p q first last fs 0 is l) : is = true := by
  rcases h with ⟨_, rfl, _⟩ | ⟨_, ⟨rfl, _⟩ | ⟨rfl, hf⟩⟩
  · rfl
  · rfl
  · exfalso
    obtain ⟨f0, hf4, hfd⟩ := dirOk_some h1
    obtain ⟨l0, hl4, hld⟩ := dirOk_some h2
    have c1 : 0 < (crd p.1 q.1 (frP fs) 0).length := by rw [(crd_len _ _ _ _).1]; omega
    have c2 : 0 < (crd p.2 q.2 (frQ fs) 0).length := by rw [(crd_len _ _ _ _).2]; omega
    have a1 := axis_in c1 (x := p.1) (by unfold crd; simp)
    have a2 := axis_in c1 (x := q.1) (by unfold crd; simp)
    have a3 := axis_in c2 (x := p.2) (by unfold crd; simp)
    have a4 := axis_in c2 (x := q.2) (by unfold crd; simp)
    obtain ⟨ds, ps, c, hp⟩ := free_way (X := ix (axX p q fs 0)) (Y := ix (axY p q fs 0)) (fs := fs) hf4 hfd hl4 a1 a3 a2 a4
    exact hf ds ps l0 c hp hld
theorem spx_free {p q : Pt} {first last : Int} (h1 : -1 ≤ first ∧ first ≤ 3) (h2 : -1 ≤ last ∧ last ≤ 3) : ∀ is l, SPx p q first last [] is l → is = true := fun is l h => by
  have h3 := spx_at h
  exact spost_free h1 h2 h3
/-- there and back -/
theorem find_back {p q : Pt} {first last : Int} (h1 : -1 ≤ first ∧ first ≤ 3) (h2 : -1 ≤ last ∧ last ≤ 3) {fs : Nat → Fr} {n : Nat} {g g' : Int} {l l' : List Pt} (h : FPost p q first last fs n g l) (h' : FPost q p (opZ last) (opZ first) fs n g' l') :
    g = g' ∧ l.length = l'.length ∧ lenP l.reverse = lenP l'.reverse := fpost_back h1 h2 h h' (spx_free h1 h2)
end Go.Proofs.Ytegmokdhfmgdgaa.Rt
