/- Drawings as arguments. -/
import Derived.Test.YtnmikhmbnpiadaaDoorShapeBasics
namespace Go.Proofs.YtnmikhmbnpiadaaDoor.Shp
open Go.RowKit Go.Frm Go.ChangeShapes Go.WideShapes Go.ChangeAt Go.Deep Go.Joins

section
variable {H : Type} {enc : TypeId × Value → H} {w : World} {base : Nat} {spare : Nat → Bool} {held : Bool}
def intOf' : Value → Int
  | .int _ z => z
  | _ => 0
def strOf' : Value → ByteArray
  | .string s => s
  | _ => ⟨#[]⟩
/-- a value that reads as []api.Shape -/
theorem shapes_trod {fuel : Nat} {v : Value} {x : DataW H × List MemPlace} (h : DataW.trod enc Tryd.prog w base spare held fuel 25 [v] = some x) :
    ∃ (A : Option Addr) (n c : Nat) (G : Nat → Nat → Int) (T : Nat → Nat → ByteArray), v = .slice A n c ∧ n ≤ 9223372036854775807 ∧ RdF w A n 12 (shV G T) ∧ ∀ i j, i < n → j < 10 → (Lit.int .i64 (G i j)).wf = true := by
  obtain ⟨A, n, c, F, rfl, hn, hr, hf⟩ := structs_trod Tryd.underlying25 Tryd.underlying23 (by kernel_rfl) (by kernel_rfl) (by decide) h
  have hI : ∀ i j, i < n → j < 10 → ∃ z : Int, F i j = .int .i64 z ∧ (Lit.int .i64 z).wf = true := by
    intro i j hi hj
    match j, hj with
    | 0, _ => obtain ⟨m, y, hy⟩ := hf i 0 _ hi rfl; obtain ⟨z, hz, _, hw⟩ := DataW.trod_int Tryd.underlying3 hy; exact ⟨z, by simpa using hz, hw⟩
    | 1, _ => obtain ⟨m, y, hy⟩ := hf i 1 _ hi rfl; obtain ⟨z, hz, _, hw⟩ := DataW.trod_int Tryd.underlying3 hy; exact ⟨z, by simpa using hz, hw⟩
    | 2, _ => obtain ⟨m, y, hy⟩ := hf i 2 _ hi rfl; obtain ⟨z, hz, _, hw⟩ := DataW.trod_int Tryd.underlying3 hy; exact ⟨z, by simpa using hz, hw⟩
    | 3, _ => obtain ⟨m, y, hy⟩ := hf i 3 _ hi rfl; obtain ⟨z, hz, _, hw⟩ := DataW.trod_int Tryd.underlying3 hy; exact ⟨z, by simpa using hz, hw⟩
    | 4, _ => obtain ⟨m, y, hy⟩ := hf i 4 _ hi rfl; obtain ⟨z, hz, _, hw⟩ := DataW.trod_int Tryd.underlying3 hy; exact ⟨z, by simpa using hz, hw⟩
    | 5, _ => obtain ⟨m, y, hy⟩ := hf i 5 _ hi rfl; obtain ⟨z, hz, _, hw⟩ := DataW.trod_int Tryd.underlying3 hy; exact ⟨z, by simpa using hz, hw⟩
    | 6, _ => obtain ⟨m, y, hy⟩ := hf i 6 _ hi rfl; obtain ⟨z, hz, _, hw⟩ := DataW.trod_int Tryd.underlying3 hy; exact ⟨z, by simpa using hz, hw⟩
    | 7, _ => obtain ⟨m, y, hy⟩ := hf i 7 _ hi rfl; obtain ⟨z, hz, _, hw⟩ := DataW.trod_int Tryd.underlying3 hy; exact ⟨z, by simpa using hz, hw⟩
    | 8, _ => obtain ⟨m, y, hy⟩ := hf i 8 _ hi rfl; obtain ⟨z, hz, _, hw⟩ := DataW.trod_int Tryd.underlying3 hy; exact ⟨z, by simpa using hz, hw⟩
    | 9, _ => obtain ⟨m, y, hy⟩ := hf i 9 _ hi rfl; obtain ⟨z, hz, _, hw⟩ := DataW.trod_int Tryd.underlying3 hy; exact ⟨z, by simpa using hz, hw⟩
  have hS : ∀ i, i < n → (∃ s, F i 10 = .string s) ∧ ∃ s, F i 11 = .string s := by
    intro i hi
    constructor
    · obtain ⟨m, y, hy⟩ := hf i 10 _ hi rfl; obtain ⟨s, hs, _⟩ := DataW.trod_string Tryd.underlying9 hy; exact ⟨s, by simpa using hs⟩
    · obtain ⟨m, y, hy⟩ := hf i 11 _ hi rfl; obtain ⟨s, hs, _⟩ := DataW.trod_string Tryd.underlying9 hy; exact ⟨s, by simpa using hs⟩
  refine ⟨A, n, c, fun i j => intOf' (F i j), fun i j => strOf' (F i j), rfl, hn, ?_, ?_⟩
  · rcases hr with h0 | ⟨b, off, rfl, hc⟩
    · exact .inl h0
    · refine .inr ⟨b, off, rfl, fun i j hi hj => ?_⟩
      have h1 : w.cell? ⟨b, off + i * 12 + j, none⟩ = some (F i j) := hc i j hi hj
      rw [h1]
      unfold shV
      dsimp only
      by_cases h10 : j < 10
      · obtain ⟨z, hz, _⟩ := hI i j hi h10
        rw [if_pos h10, hz]
        rfl
      · rw [if_neg h10]
        have hj2 : j = 10 ∨ j = 11 := by
          have : j < 12 := hj
          omega
        rcases hj2 with rfl | rfl
        · obtain ⟨s, hs⟩ := (hS i hi).1
          rw [hs]
          rfl
        · obtain ⟨s, hs⟩ := (hS i hi).2
          rw [hs]
          rfl
  · intro i j hi hj
    obtain ⟨z, hz, hw⟩ := hI i j hi hj
    show (Lit.int .i64 (intOf' (F i j))).wf = true
    rw [hz]
    exact hw

theorem one_struct {t : TypeId} {fs : Array Field} {fuel : Nat} {cs : List Value} {x : DataW H × List MemPlace} (he : Tryd.prog.underlying t = some (.struct fs)) (hone : oneCellFields Tryd.prog fs = true)
    (h : DataW.trod enc Tryd.prog w base spare held fuel t cs = some x) : ∀ (j : Nat) (f : Field), fs[j]? = some f → ∃ (m : Nat) (y : DataW H × List MemPlace), DataW.trod enc Tryd.prog w base spare held m f.type ((cs.drop j).take 1) = some y := by
  intro j f hj
  obtain ⟨ys, m', _, hy, hlen, hyl, hf⟩ := DataW.trod_struct he h
  obtain ⟨ho, hk⟩ := hone_of hone j f hj
  have hjl : j < fs.size := (Array.getElem?_eq_some_iff.1 hj).1
  have h1 := hf j f hj
  rw [ho, hk, List.getElem?_eq_getElem (by omega)] at h1
  exact ⟨m', _, h1⟩

/-- a value that reads as api.Shape -/
theorem shape_trod {r : Reach} {b0 : Nat} {v : Value} {d : DataW H} {p : List MemPlace} (hv : Value.okWide Tryd.prog w r b0 23 v) (h : DataW.Trod enc Tryd.prog w base spare held 23 v d p) :
    ∃ (G : Nat → Nat → Int) (T : Nat → Nat → ByteArray), v = shA G T 0 ∧ ∀ j, j < 10 → (Lit.int .i64 (G 0 j)).wf = true := by
  obtain ⟨cs, rfl, hsz⟩ := okWide_struct Tryd.underlying23 hv
  rw [show Tryd.prog.cellsOf 23 = 12 by kernel_rfl] at hsz
  obtain ⟨fuel, hf⟩ := h
  have hff := one_struct Tryd.underlying23 (by kernel_rfl) (cs := cs.toList) hf
  rcases cs with ⟨l⟩
  match l, hsz with
  | [a0, a1, a2, a3, a4, a5, a6, a7, a8, a9, a10, a11], _ =>
    obtain ⟨m0, y0, hy0⟩ := hff 0 _ rfl
    obtain ⟨z0, e0, _, w0⟩ := DataW.trod_int Tryd.underlying3 hy0
    obtain rfl : a0 = .int .i64 z0 := by simpa using e0
    obtain ⟨m1, y1, hy1⟩ := hff 1 _ rfl
    obtain ⟨z1, e1, _, w1⟩ := DataW.trod_int Tryd.underlying3 hy1
    obtain rfl : a1 = .int .i64 z1 := by simpa using e1
    obtain ⟨m2, y2, hy2⟩ := hff 2 _ rfl
    obtain ⟨z2, e2, _, w2⟩ := DataW.trod_int Tryd.underlying3 hy2
    obtain rfl : a2 = .int .i64 z2 := by simpa using e2
    obtain ⟨m3, y3, hy3⟩ := hff 3 _ rfl
    obtain ⟨z3, e3, _, w3⟩ := DataW.trod_int Tryd.underlying3 hy3
    obtain rfl : a3 = .int .i64 z3 := by simpa using e3
    obtain ⟨m4, y4, hy4⟩ := hff 4 _ rfl
    obtain ⟨z4, e4, _, w4⟩ := DataW.trod_int Tryd.underlying3 hy4
    obtain rfl : a4 = .int .i64 z4 := by simpa using e4
    obtain ⟨m5, y5, hy5⟩ := hff 5 _ rfl
    obtain ⟨z5, e5, _, w5⟩ := DataW.trod_int Tryd.underlying3 hy5
    obtain rfl : a5 = .int .i64 z5 := by simpa using e5
    obtain ⟨m6, y6, hy6⟩ := hff 6 _ rfl
    obtain ⟨z6, e6, _, w6⟩ := DataW.trod_int Tryd.underlying3 hy6
    obtain rfl : a6 = .int .i64 z6 := by simpa using e6
    obtain ⟨m7, y7, hy7⟩ := hff 7 _ rfl
    obtain ⟨z7, e7, _, w7⟩ := DataW.trod_int Tryd.underlying3 hy7
    obtain rfl : a7 = .int .i64 z7 := by simpa using e7
    obtain ⟨m8, y8, hy8⟩ := hff 8 _ rfl
    obtain ⟨z8, e8, _, w8⟩ := DataW.trod_int Tryd.underlying3 hy8
    obtain rfl : a8 = .int .i64 z8 := by simpa using e8
    obtain ⟨m9, y9, hy9⟩ := hff 9 _ rfl
    obtain ⟨z9, e9, _, w9⟩ := DataW.trod_int Tryd.underlying3 hy9
    obtain rfl : a9 = .int .i64 z9 := by simpa using e9
    obtain ⟨m10, y10, hy10⟩ := hff 10 _ rfl
    obtain ⟨s10, e10, _⟩ := DataW.trod_string Tryd.underlying9 hy10
    obtain rfl : a10 = .string s10 := by simpa using e10
    obtain ⟨m11, y11, hy11⟩ := hff 11 _ rfl
    obtain ⟨s11, e11, _⟩ := DataW.trod_string Tryd.underlying9 hy11
    obtain rfl : a11 = .string s11 := by simpa using e11
    exact ⟨fun _ j => [z0, z1, z2, z3, z4, z5, z6, z7, z8, z9].getD j 0, fun _ j => if j = 10 then s10 else s11, rfl, fun j hj => by
      match j, hj with
      | 0, _ => exact w0
      | 1, _ => exact w1
      | 2, _ => exact w2
      | 3, _ => exact w3
      | 4, _ => exact w4
      | 5, _ => exact w5
      | 6, _ => exact w6
      | 7, _ => exact w7
      | 8, _ => exact w8
      | 9, _ => exact w9⟩
end
end Go.Proofs.YtnmikhmbnpiadaaDoor.Shp
