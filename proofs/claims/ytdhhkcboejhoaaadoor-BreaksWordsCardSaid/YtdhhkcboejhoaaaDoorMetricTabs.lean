/- The tables of package metric, out of what the row lists. -/
import Derived.Test.YtdhhkcboejhoaaaDoorMetric
import Derived.Test.YtdhhkcboejhoaaaDoorRows
namespace Go.Proofs.YtdhhkcboejhoaaaDoor.Mtr
open Go.RowKit Go.Frm

theorem gMarks : Tryd.prog.globalNamed "chancery/metric.marks" = some 0 := by kernel_rfl
theorem tMarks : (Tryd.prog.globals[0]?).map (·.type) = some 71 := by kernel_rfl

/-- a listed table of spans reads as it is listed -/
theorem spans_laid {W : World} {f0 : Nat} {cs : Array Value} {d : DataW Unit} {p : List MemPlace} {g : Nat} {name : String} (tb : List (List Int)) (hn : tb ≠ []) (hd : d = tbD tb) (hg : Tryd.prog.globalNamed name = some g) (hv : W.var? Tryd.prog name = some cs)
    (h : DataW.trod (fun _ => ()) Tryd.prog W 0 (fun _ => true) false f0 71 cs.toList = some (d, p)) :
    ∃ A c, W.cell? ⟨g, 0, none⟩ = some (.slice A tb.length c) ∧ RdF W A tb.length 3 (fun i j => .int .i64 (tbV tb i j)) := by
  subst hd
  obtain ⟨A, c, hcs, hr⟩ := laid_rows tb Tryd.underlying71 Tryd.underlying75 (by kernel_rfl) (by kernel_rfl) (by decide) (fun j f hj => by
    match j, hj with
    | 0, hj => cases hj; exact Tryd.underlying3
    | 1, hj => cases hj; exact Tryd.underlying3
    | 2, hj => cases hj; exact Tryd.underlying3) hn h
  refine ⟨A, c, ?_, hr⟩
  have h1 := World.var?_cell hg hv 0
  rw [Array.eq_one_of_toList hcs] at h1
  simpa using h1

/-- what a row that lists the marks gives -/
theorem tabM_of {W : World} {l : List (String × DataW Unit)} (hl : ∃ d r, l = ("chancery/metric.marks", d) :: r ∧ d = tbD marksTb) (hp : (l.all fun x => x.2.handleName?.isNone) = true) (h : laidMetH Tryd.prog l W) : TabM W := by
  obtain ⟨d, r, rfl, hd⟩ := hl
  rw [MakeChecks.laidMetH_plain _ _ _ hp] at h
  obtain ⟨ps, ⟨g0, t0, cs0, f0, p0, q0, hg0, ht0, hv0, hd0, _⟩, _, _⟩ := h
  obtain rfl := Option.some.inj (gMarks.symm.trans hg0)
  obtain rfl := Option.some.inj (tMarks.symm.trans ht0)
  obtain ⟨A, c, h1, h2⟩ := spans_laid marksTb (by decide) hd gMarks hv0 hd0
  exact ⟨A, c, h1, h2⟩
end Go.Proofs.YtdhhkcboejhoaaaDoor.Mtr
