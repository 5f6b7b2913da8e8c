/- Boxes of points: made and filled. -/
import Derived.Test.YtnmikhmbnpiadaaDoorShapeArgs
import Derived.Test.YtnmikhmbnpiadaaDoorBoxes
namespace Go.Proofs.YtnmikhmbnpiadaaDoor.Shp
open Go.RowKit Go.Frm Go.ChangeShapes Go.WideShapes Go.ChangeAt Go.Deep Go.Joins

/-- an argument that reads as []api.Shape -/
theorem shapes_arg {H : Type} {enc : TypeId × Value → H} {w : World} {base : Nat} {spare : Nat → Bool} {held : Bool} {r : Reach} {b0 : Nat} {v : Value} {d : DataW H} {p : List MemPlace} (hv : Value.okWide Tryd.prog w r b0 25 v)
    (h : DataW.Trod enc Tryd.prog w base spare held 25 v d p) :
    ∃ (A : Option Addr) (n c : Nat) (G : Nat → Nat → Int) (T : Nat → Nat → ByteArray), v = .slice A n c ∧ n ≤ 9223372036854775807 ∧ RdF w A n 12 (shV G T) ∧ ∀ i j, i < n → j < 10 → (Lit.int .i64 (G i j)).wf = true := by
  obtain ⟨a0, len, cap, rfl⟩ := okWide_slice Tryd.underlying25 hv
  obtain ⟨fuel, hf⟩ := h
  exact shapes_trod hf

def ptz : Array Value := #[.int .i64 0, .int .i64 0]
def ptc (x y : Int) : Array Value := #[.int .i64 x, .int .i64 y]
theorem alloc_pt (w : World) : (Instr.alloc 34 true (.tuple #[])).run Tryd.prog w = .ok (.pointer (some ⟨w.heap.size, 0, none⟩)) (w.alloc (.cells ptz 34)) := by kernel_rfl
theorem store_pt (w : World) (g : Nat) (x y : Int) (h : Blk w g 34 ptz) :
    ∃ w', (Instr.storeAt 34 (.pointer (some ⟨g, 0, none⟩)) (.agg (ptc x y))).run Tryd.prog w = .ok () w' ∧ Blk w' g 34 (ptc x y) ∧ w.grownBy w' (some g) := by
  have c0 : w.cell? ⟨g, 0, none⟩ = some (.int .i64 0) := h.cell 0
  have c1 : w.cell? ⟨g, 1, none⟩ = some (.int .i64 0) := h.cell 1
  have z0 : w.frozen? ⟨g, 0, none⟩ = false := h.frozen 0
  have z1 : w.frozen? ⟨g, 1, none⟩ = false := h.frozen 1
  refine ⟨(w.setCell ⟨g, 0, none⟩ (.int .i64 x)).setCell ⟨g, 1, none⟩ (.int .i64 y), ?_, ?_, ?_⟩
  · unfold ptc
    go_simp
  · exact (h.set_ 0 (.int .i64 x)).set_ 1 (.int .i64 y)
  · have h1 : ∀ (W : World) (i : Nat) (v : Value), W.grownBy (W.setCell ⟨g, i, none⟩ v) (some g) := fun W i v =>
      ⟨rfl, rfl, rfl, by simp [World.setCell], fun k _ hk => Below.heap_setCell _ _ _ k (fun e => hk (by rw [e]))⟩
    have a := h1 w 0 (.int .i64 x)
    have b := h1 (w.setCell ⟨g, 0, none⟩ (.int .i64 x)) 1 (.int .i64 y)
    exact ⟨b.os.trans a.os, b.tape.trans a.tape, b.output.trans a.output, Nat.le_trans a.size b.size, fun k hk hne => (b.block k (Nat.lt_of_lt_of_le hk a.size) hne).trans (a.block k hk hne)⟩
end Go.Proofs.YtnmikhmbnpiadaaDoor.Shp
