/- Parts and shapes of paragraphs as arguments. -/
import Derived.Test.YtmjhmcjlbcadaaaLnMake
import Derived.Test.YtmjhmcjlbcadaaaLnShape
import Derived.Test.YtmjhmcjlbcadaaaArgs
namespace Go.Proofs.Ytmjhmcjlbcadaaa.Ln
open Go.RowKit Go.Frm Go.ChangeShapes Go.WideShapes Go.ChangeAt Go.Deep Go.Joins

section
variable {H : Type} {enc : TypeId × Value → H} {w : World} {base : Nat} {spare : Nat → Bool} {held : Bool}
def intQ : Value → Int
  | .int _ z => z
  | _ => 0
def boolQ : Value → Bool
  | .bool b => b
  | _ => false
/-- a value that reads as []api.LinePart -/
theorem parts_trod {fuel : Nat} {v : Value} {x : DataW H × List MemPlace} (h : DataW.trod enc Try.prog w base spare held fuel 22 [v] = some x) :
    ∃ (A : Option Addr) (Q : Pts) (c : Nat), v = .slice A Q.n c ∧ RdF w A Q.n 6 (ptV Q) ∧ WP Q := by
  obtain ⟨A, n, c, F, rfl, hn, hr, hf⟩ := structs_trod Try.underlying22 Try.underlying39 (by kernel_rfl) (by kernel_rfl) (by decide) h
  have hI : ∀ i j, i < n → j < 5 → ∃ z : Int, F i j = .int .i64 z ∧ (Lit.int .i64 z).wf = true := by
    intro i j hi hj
    match j, hj with
    | 0, _ => obtain ⟨m, y, hy⟩ := hf i 0 _ hi rfl; obtain ⟨z, hz, _, hw⟩ := DataW.trod_int Try.underlying3 hy; exact ⟨z, by simpa using hz, hw⟩
    | 1, _ => obtain ⟨m, y, hy⟩ := hf i 1 _ hi rfl; obtain ⟨z, hz, _, hw⟩ := DataW.trod_int Try.underlying3 hy; exact ⟨z, by simpa using hz, hw⟩
    | 2, _ => obtain ⟨m, y, hy⟩ := hf i 2 _ hi rfl; obtain ⟨z, hz, _, hw⟩ := DataW.trod_int Try.underlying3 hy; exact ⟨z, by simpa using hz, hw⟩
    | 3, _ => obtain ⟨m, y, hy⟩ := hf i 3 _ hi rfl; obtain ⟨z, hz, _, hw⟩ := DataW.trod_int Try.underlying3 hy; exact ⟨z, by simpa using hz, hw⟩
    | 4, _ => obtain ⟨m, y, hy⟩ := hf i 4 _ hi rfl; obtain ⟨z, hz, _, hw⟩ := DataW.trod_int Try.underlying3 hy; exact ⟨z, by simpa using hz, hw⟩
  have hB : ∀ i, i < n → ∃ b, F i 5 = .bool b := by
    intro i hi
    obtain ⟨m, y, hy⟩ := hf i 5 _ hi rfl
    obtain ⟨b, hb, _⟩ := DataW.trod_bool Try.underlying4 hy
    exact ⟨b, by simpa using hb⟩
  have hw : ∀ i j, i < n → j < 5 → (Lit.int .i64 (intQ (F i j))).wf = true := by
    intro i j hi hj
    obtain ⟨z, hz, hw⟩ := hI i j hi hj
    rw [hz]
    exact hw
  refine ⟨A, ⟨n, fun i => intQ (F i 0), fun i => intQ (F i 1), fun i => intQ (F i 2), fun i => intQ (F i 3), fun i => intQ (F i 4), fun i => boolQ (F i 5)⟩, c, rfl, ?_, ⟨hn, fun i hi => hw i 0 hi (by omega), fun i hi => hw i 1 hi (by omega), fun i hi => hw i 2 hi (by omega), fun i hi => hw i 3 hi (by omega), fun i hi => hw i 4 hi (by omega)⟩⟩
  rcases hr with h0 | ⟨b, off, rfl, hc⟩
  · exact .inl h0
  · refine .inr ⟨b, off, rfl, fun i j hi hj => ?_⟩
    have h1 : w.cell? ⟨b, off + i * 6 + j, none⟩ = some (F i j) := hc i j hi hj
    rw [h1]
    have hi' : i < n := hi
    match j, hj with
    | 0, _ => obtain ⟨z, hz, _⟩ := hI i 0 hi' (by omega); simp [ptV, hz, intQ]
    | 1, _ => obtain ⟨z, hz, _⟩ := hI i 1 hi' (by omega); simp [ptV, hz, intQ]
    | 2, _ => obtain ⟨z, hz, _⟩ := hI i 2 hi' (by omega); simp [ptV, hz, intQ]
    | 3, _ => obtain ⟨z, hz, _⟩ := hI i 3 hi' (by omega); simp [ptV, hz, intQ]
    | 4, _ => obtain ⟨z, hz, _⟩ := hI i 4 hi' (by omega); simp [ptV, hz, intQ]
    | 5, _ => obtain ⟨b, hb⟩ := hB i hi'; simp [ptV, hb, boolQ]
/-- a value that reads as api.LineShape -/
theorem lshape_trod {r : Reach} {b0 : Nat} {v : Value} {d : DataW H} {p : List MemPlace} (hv : Value.okWide Try.prog w r b0 25 v) (h : DataW.Trod enc Try.prog w base spare held 25 v d p) :
    ∃ (A : Option Addr) (Z : List Int) (c : Nat) (D : Int), v = .agg #[.slice A Z.length c, .int .i64 D] ∧ RdI w A Z ∧ Z.length ≤ 9223372036854775807 ∧ (∀ i, i < Z.length → (Lit.int .i64 (ix Z i)).wf = true) ∧ (Lit.int .i64 D).wf = true := by
  obtain ⟨c0, c1, y0, y1, m, rfl, rfl, rfl, hy0, hy1⟩ := open_agg2 Try.underlying25 (by kernel_rfl) (by kernel_rfl) hv h
  obtain ⟨A, c, Z, rfl, hr, hl, hw⟩ := ints_trod Try.underlying23 Try.underlying3 (by kernel_rfl) hy0
  obtain ⟨D, e0, _, hD⟩ := DataW.trod_int Try.underlying3 hy1
  obtain rfl : c1 = .int .i64 D := by simpa using e0
  exact ⟨A, Z, c, D, rfl, hr, hl, hw, hD⟩
end
end Go.Proofs.Ytmjhmcjlbcadaaa.Ln
