/- The length of a way, both ways of reckoning. Nothing here speaks of a program. -/
import Derived.Test.YtegmokdhfmgdgaaRtClearFind
import Derived.Test.YtegmokdhfmgdgaaRtMeasure
namespace Go.Proofs.Ytegmokdhfmgdgaa.Rt
open Go.RowKit Go.Frm Go.Frm.Rt

theorem lenF_lenP (Q : Nat → Pt) : ∀ m, lenF Q m = lenP ((List.range m).map Q).reverse
  | 0 => rfl
  | 1 => rfl
  | m + 2 => by
    have h := lenF_lenP Q (m + 1)
    show lenF Q (m + 1) + dist (Q m) (Q (m + 1)) = _
    have e1 : ((List.range (m + 1)).map Q).reverse = Q m :: ((List.range m).map Q).reverse := by rw [List.range_succ, List.map_append, List.reverse_append]; rfl
    have e2 : ((List.range (m + 2)).map Q).reverse = Q (m + 1) :: Q m :: ((List.range m).map Q).reverse := by rw [List.range_succ, List.map_append, List.reverse_append, e1]; rfl
    rw [e2, h, e1]
    show _ = dist (Q m) (Q (m + 1)) + lenP (Q m :: ((List.range m).map Q).reverse)
    omega
/-- there and back, as the rows tell it -/
theorem rows_back {p q : Pt} {first last : Int} (h1 : -1 ≤ first ∧ first ≤ 3) (h2 : -1 ≤ last ∧ last ≤ 3) {fs : Nat → Fr} {n : Nat} {g g' : Int} {m m' : Nat} {Q Q' : Nat → Pt} (h : FPost p q first last fs n g ((List.range m).map Q)) (h' : FPost q p (opZ last) (opZ first) fs n g' ((List.range m').map Q')) :
    g = g' ∧ m = m' ∧ lenF Q m = lenF Q' m' := by
  obtain ⟨a1, a2, a3⟩ := find_back h1 h2 h h'
  rw [List.length_map, List.length_map, List.length_range, List.length_range] at a2
  exact ⟨a1, a2, by rw [lenF_lenP, lenF_lenP, a3]⟩
end Go.Proofs.Ytegmokdhfmgdgaa.Rt
