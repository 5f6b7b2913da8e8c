/- Boxes of shapes: made and filled. -/
import Derived.Test.YtnmikhmbnpiadaaDoorShapeTwice
namespace Go.Proofs.YtnmikhmbnpiadaaDoor.Shp
open Go.RowKit Go.Frm

def shz : Array Value := #[.int .i64 0, .int .i64 0, .int .i64 0, .int .i64 0, .int .i64 0, .int .i64 0, .int .i64 0, .int .i64 0, .int .i64 0, .int .i64 0, .string ⟨#[]⟩, .string ⟨#[]⟩]
theorem alloc_sh (w : World) : (Instr.alloc 23 true (.tuple #[])).run Tryd.prog w = .ok (.pointer (some ⟨w.heap.size, 0, none⟩)) (w.alloc (.cells shz 23)) := by kernel_rfl
theorem grown_set {w w' : World} {g i : Nat} {v : Value} (h : w.grownBy w' (some g)) : w.grownBy (w'.setCell ⟨g, i, none⟩ v) (some g) :=
  ⟨h.os, h.tape, h.output, by simpa [World.setCell] using h.size, fun k hk hne => (Below.heap_setCell _ _ _ k (fun e => hne (by rw [e]))).trans (h.block k hk hne)⟩
theorem grown_refl (w : World) (r : Option Nat) : w.grownBy w r := ⟨rfl, rfl, rfl, Nat.le_refl _, fun _ _ _ => rfl⟩
set_option maxRecDepth 100000 in
set_option maxHeartbeats 2000000 in
theorem store_sh (w : World) (g : Nat) (G : Nat → Nat → Int) (T : Nat → Nat → ByteArray) (k : Nat) (h : Blk w g 23 shz) :
    ∃ w', (Instr.storeAt 23 (.pointer (some ⟨g, 0, none⟩)) (.agg (shC G T k))).run Tryd.prog w = .ok () w' ∧ Blk w' g 23 (shC G T k) ∧ w.grownBy w' (some g) := by
  unfold shC
  generalize G k 0 = n0
  generalize G k 1 = n1
  generalize G k 2 = n2
  generalize G k 3 = n3
  generalize G k 4 = n4
  generalize G k 5 = n5
  generalize G k 6 = n6
  generalize G k 7 = n7
  generalize G k 8 = n8
  generalize G k 9 = n9
  generalize T k 10 = n10
  generalize T k 11 = n11
  have c0 : w.cell? ⟨g, 0, none⟩ = some (.int .i64 0) := h.cell 0
  have c1 : w.cell? ⟨g, 1, none⟩ = some (.int .i64 0) := h.cell 1
  have c2 : w.cell? ⟨g, 2, none⟩ = some (.int .i64 0) := h.cell 2
  have c3 : w.cell? ⟨g, 3, none⟩ = some (.int .i64 0) := h.cell 3
  have c4 : w.cell? ⟨g, 4, none⟩ = some (.int .i64 0) := h.cell 4
  have c5 : w.cell? ⟨g, 5, none⟩ = some (.int .i64 0) := h.cell 5
  have c6 : w.cell? ⟨g, 6, none⟩ = some (.int .i64 0) := h.cell 6
  have c7 : w.cell? ⟨g, 7, none⟩ = some (.int .i64 0) := h.cell 7
  have c8 : w.cell? ⟨g, 8, none⟩ = some (.int .i64 0) := h.cell 8
  have c9 : w.cell? ⟨g, 9, none⟩ = some (.int .i64 0) := h.cell 9
  have c10 : w.cell? ⟨g, 10, none⟩ = some (.string ⟨#[]⟩) := h.cell 10
  have c11 : w.cell? ⟨g, 11, none⟩ = some (.string ⟨#[]⟩) := h.cell 11
  have z : ∀ i, w.frozen? ⟨g, i, none⟩ = false := h.frozen
  have z0 := z 0
  have z1 := z 1
  have z2 := z 2
  have z3 := z 3
  have z4 := z 4
  have z5 := z 5
  have z6 := z 6
  have z7 := z 7
  have z8 := z 8
  have z9 := z 9
  have z10 := z 10
  have z11 := z 11
  refine ⟨(((((((((((w.setCell ⟨g, 0, none⟩ (.int .i64 n0)).setCell ⟨g, 1, none⟩ (.int .i64 n1)).setCell ⟨g, 2, none⟩ (.int .i64 n2)).setCell ⟨g, 3, none⟩ (.int .i64 n3)).setCell ⟨g, 4, none⟩ (.int .i64 n4)).setCell ⟨g, 5, none⟩ (.int .i64 n5)).setCell ⟨g, 6, none⟩ (.int .i64 n6)).setCell ⟨g, 7, none⟩ (.int .i64 n7)).setCell ⟨g, 8, none⟩ (.int .i64 n8)).setCell ⟨g, 9, none⟩ (.int .i64 n9)).setCell ⟨g, 10, none⟩ (.string n10)).setCell ⟨g, 11, none⟩ (.string n11), ?_, ?_, ?_⟩
  · go_simp
  · refine blk_cells (by simp [shz]) ((((((((((((h.set_ 0 (.int .i64 n0)).set_ 1 (.int .i64 n1)).set_ 2 (.int .i64 n2)).set_ 3 (.int .i64 n3)).set_ 4 (.int .i64 n4)).set_ 5 (.int .i64 n5)).set_ 6 (.int .i64 n6)).set_ 7 (.int .i64 n7)).set_ 8 (.int .i64 n8)).set_ 9 (.int .i64 n9)).set_ 10 (.string n10)).set_ 11 (.string n11))
  · exact grown_set (grown_set (grown_set (grown_set (grown_set (grown_set (grown_set (grown_set (grown_set (grown_set (grown_set (grown_set (grown_refl w _))))))))))))
end Go.Proofs.YtnmikhmbnpiadaaDoor.Shp
