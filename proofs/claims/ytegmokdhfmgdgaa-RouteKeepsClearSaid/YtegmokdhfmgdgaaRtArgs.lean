/- Rectangles and points as arguments. -/
import Derived.Test.YtegmokdhfmgdgaaRtSmall
import Derived.Test.YtegmokdhfmgdgaaArgs
namespace Go.Proofs.Ytegmokdhfmgdgaa.Rt
open Go.RowKit Go.Frm Go.Frm.Rt Go.ChangeShapes Go.WideShapes Go.ChangeAt Go.Deep Go.Joins

section
variable {H : Type} {enc : TypeId × Value → H} {w : World} {base : Nat} {spare : Nat → Bool} {held : Bool}
def intQ : Value → Int
  | .int _ z => z
  | _ => 0
def wfI (z : Int) : Prop := (Lit.int .i64 z).wf = true
/-- a value that reads as []api.Frame -/
theorem frames_trod {fuel : Nat} {v : Value} {x : DataW H × List MemPlace} (h : DataW.trod enc Try.prog w base spare held fuel 22 [v] = some x) :
    ∃ (A : Option Addr) (n c : Nat) (fs : Nat → Fr), v = .slice A n c ∧ n ≤ 9223372036854775807 ∧ RdF w A n 4 (frF fs) ∧ ∀ i, i < n → wfI (fs i).x0 ∧ wfI (fs i).y0 ∧ wfI (fs i).x1 ∧ wfI (fs i).y1 := by
  obtain ⟨A, n, c, F, rfl, hn, hr, hf⟩ := structs_trod Try.underlying22 Try.underlying34 (by kernel_rfl) (by kernel_rfl) (by decide) h
  have hI : ∀ i j, i < n → j < 4 → ∃ z : Int, F i j = .int .i64 z ∧ (Lit.int .i64 z).wf = true := by
    intro i j hi hj
    match j, hj with
    | 0, _ => obtain ⟨m, y, hy⟩ := hf i 0 _ hi rfl; obtain ⟨z, hz, _, hw⟩ := DataW.trod_int Try.underlying3 hy; exact ⟨z, by simpa using hz, hw⟩
    | 1, _ => obtain ⟨m, y, hy⟩ := hf i 1 _ hi rfl; obtain ⟨z, hz, _, hw⟩ := DataW.trod_int Try.underlying3 hy; exact ⟨z, by simpa using hz, hw⟩
    | 2, _ => obtain ⟨m, y, hy⟩ := hf i 2 _ hi rfl; obtain ⟨z, hz, _, hw⟩ := DataW.trod_int Try.underlying3 hy; exact ⟨z, by simpa using hz, hw⟩
    | 3, _ => obtain ⟨m, y, hy⟩ := hf i 3 _ hi rfl; obtain ⟨z, hz, _, hw⟩ := DataW.trod_int Try.underlying3 hy; exact ⟨z, by simpa using hz, hw⟩
  have hw : ∀ i j, i < n → j < 4 → wfI (intQ (F i j)) := by
    intro i j hi hj
    obtain ⟨z, hz, hw⟩ := hI i j hi hj
    rw [hz]
    exact hw
  refine ⟨A, n, c, fun i => ⟨intQ (F i 0), intQ (F i 1), intQ (F i 2), intQ (F i 3)⟩, rfl, hn, ?_, fun i hi => ⟨hw i 0 hi (by omega), hw i 1 hi (by omega), hw i 2 hi (by omega), hw i 3 hi (by omega)⟩⟩
  rcases hr with h0 | ⟨b, off, rfl, hc⟩
  · exact .inl h0
  · refine .inr ⟨b, off, rfl, fun i j hi hj => ?_⟩
    have h1 : w.cell? ⟨b, off + i * 4 + j, none⟩ = some (F i j) := hc i j hi hj
    rw [h1]
    match j, hj with
    | 0, _ => obtain ⟨z, hz, _⟩ := hI i 0 hi (by omega); simp [frF, hz, intQ]
    | 1, _ => obtain ⟨z, hz, _⟩ := hI i 1 hi (by omega); simp [frF, hz, intQ]
    | 2, _ => obtain ⟨z, hz, _⟩ := hI i 2 hi (by omega); simp [frF, hz, intQ]
    | 3, _ => obtain ⟨z, hz, _⟩ := hI i 3 hi (by omega); simp [frF, hz, intQ]
/-- a value that reads as api.Point -/
theorem point_trod {r : Reach} {b0 : Nat} {v : Value} {d : DataW H} {p : List MemPlace} (hv : Value.okWide Try.prog w r b0 24 v) (h : DataW.Trod enc Try.prog w base spare held 24 v d p) :
    ∃ q : Pt, v = ptV q ∧ wfI q.1 ∧ wfI q.2 := by
  obtain ⟨c0, c1, y0, y1, m, rfl, rfl, rfl, hy0, hy1⟩ := open_agg2 Try.underlying24 (by kernel_rfl) (by kernel_rfl) hv h
  obtain ⟨x, e0, _, hx⟩ := DataW.trod_int Try.underlying3 hy0
  obtain ⟨y, e1, _, hy⟩ := DataW.trod_int Try.underlying3 hy1
  obtain rfl : c0 = .int .i64 x := by simpa using e0
  obtain rfl : c1 = .int .i64 y := by simpa using e1
  exact ⟨(x, y), rfl, hx, hy⟩
end
end Go.Proofs.Ytegmokdhfmgdgaa.Rt
