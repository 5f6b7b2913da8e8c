/- The table of sines, out of what a row lists. -/
import Derived.Test.YtnmikhmbnpiadaaDoorLaid
import Derived.Test.YtnmikhmbnpiadaaDoorShapeSine
import Derived.Test.YtnmikhmbnpiadaaDoorCards
namespace Go.Proofs.YtnmikhmbnpiadaaDoor.Shp
open Go.RowKit Go.Frm Go.ChangeShapes Go.WideShapes Go.ChangeAt Go.Deep

theorem gQuarter : Tryd.prog.globalNamed "chancery/shape.quarter" = some 0 := by kernel_rfl
theorem tQuarter : (Tryd.prog.globals[0]?).map (·.type) = some 77 := by kernel_rfl
def quarterD : DataW Unit := .agg (quarterL.map fun x => .lit (.int .i64 x))
theorem quarter_eq : Rows.laid_chancery_shape_quarter = quarterD := rfl
theorem tabQ_of {W : World} {l : List (String × DataW Unit)} (hl : ∃ d r, l = ("chancery/shape.quarter", d) :: r ∧ d = quarterD) (hp : (l.all fun x => x.2.handleName?.isNone) = true) (h : laidMetH Tryd.prog l W) : TabQ W := by
  obtain ⟨d, r, rfl, hd⟩ := hl
  rw [MakeChecks.laidMetH_plain _ _ _ hp] at h
  obtain ⟨ps, ⟨g0, t0, cs0, f0, p0, q0, hg0, ht0, hv0, hd0, _⟩, _, _⟩ := h
  obtain rfl := Option.some.inj (gQuarter.symm.trans hg0)
  obtain rfl := Option.some.inj (tQuarter.symm.trans ht0)
  obtain ⟨ys, m, _, hy, hlen, hl, hf⟩ := DataW.trod_array Tryd.underlying77 hd0
  have hC : Tryd.prog.cellsOf 3 = 1 := by kernel_rfl
  rw [hC] at hf
  rw [show Tryd.prog.cellsOf 77 = 91 by kernel_rfl] at hlen
  have h2 := congrArg Prod.fst hy
  simp only at h2
  rw [hd] at h2
  simp only [quarterD, DataW.agg.injEq] at h2
  have hql : quarterL.length = 91 := rfl
  intro i hi
  have h1 := World.var?_cell gQuarter hv0 i
  have hfi := hf i hi
  rw [Nat.mul_one, List.drop_eq_getElem_cons (by omega), List.getElem?_eq_getElem (by omega)] at hfi
  obtain ⟨z, hz, hzy, _⟩ := DataW.trod_int Tryd.underlying3 (show DataW.trod (fun _ => ()) Tryd.prog W 0 (fun _ => true) false m 3 [cs0.toList[i]] = some ys[i] from hfi)
  have h3 := congrArg (fun l => l[i]?) h2
  simp only [List.getElem?_map, List.getElem?_eq_getElem (show i < ys.length by omega), List.getElem?_eq_getElem (show i < quarterL.length by omega), Option.map_some] at h3
  rw [hzy] at h3
  have h4 : quarterL[i]'(by omega) = z := by simpa using h3
  have h6 : Qt i = z := by
    unfold Qt
    rw [List.getD_eq_getElem?_getD, List.getElem?_eq_getElem (by omega), Option.getD_some]
    exact h4
  simp at hz
  rw [h1, h6, Array.getElem?_eq_getElem (by simpa using (by omega : i < cs0.toList.length)), hz]
end Go.Proofs.YtnmikhmbnpiadaaDoor.Shp
