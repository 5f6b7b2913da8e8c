/- Both tables of package metric, out of what the row lists; the contract of chancerykeep3.metrics. -/
import Derived.Test.YtdhhkcboejhoaaaDoorMetricTabs
import Derived.Test.YtdhhkcboejhoaaaDoorMetricFitN
namespace Go.Proofs.YtdhhkcboejhoaaaDoor.Mtr
open Go.RowKit Go.Frm

theorem gOthers : Tryd.prog.globalNamed "chancery/metric.others" = some 1 := by kernel_rfl
theorem tOthers : (Tryd.prog.globals[1]?).map (·.type) = some 71 := by kernel_rfl
theorem tabs_of {W : World} {l : List (String × DataW Unit)} (hl : ∃ d d2 r, l = ("chancery/metric.marks", d) :: ("chancery/metric.others", d2) :: r ∧ d = tbD marksTb ∧ d2 = tbD othersTb) (hp : (l.all fun x => x.2.handleName?.isNone) = true) (h : laidMetH Tryd.prog l W) : Tabs W := by
  obtain ⟨d, d2, r, rfl, hd, hd2⟩ := hl
  rw [MakeChecks.laidMetH_plain _ _ _ hp] at h
  obtain ⟨ps, ⟨g0, t0, cs0, f0, p0, q0, hg0, ht0, hv0, hd0, ⟨g1, t1, cs1, f1, p1, q1, hg1, ht1, hv1, hd1, _⟩, _⟩, _, _⟩ := h
  obtain rfl := Option.some.inj (gMarks.symm.trans hg0)
  obtain rfl := Option.some.inj (tMarks.symm.trans ht0)
  obtain rfl := Option.some.inj (gOthers.symm.trans hg1)
  obtain rfl := Option.some.inj (tOthers.symm.trans ht1)
  obtain ⟨A, c, h1, h2⟩ := spans_laid marksTb (by decide) hd gMarks hv0 hd0
  obtain ⟨B, c2, h3, h4⟩ := spans_laid othersTb (by decide) hd2 gOthers hv1 hd1
  exact ⟨⟨A, c, h1, h2⟩, ⟨B, c2, h3, h4⟩⟩

theorem fit_first : fitK 1000 false false (ix [65, 86]) 2 1249 2 = 1 := by decide +kernel
theorem wid_first : wid 1000 false false (ix [65, 86]) 1 = 660 := by decide +kernel
set_option maxRecDepth 100000 in
set_option maxHeartbeats 1000000 in
theorem metrics_ok (w : World) (ht : Tabs w) : Calls Tryd.prog 17 #[] w fun e w' => e = .returned (.bool true) ∧ Below w.heap.size w w' := by
  have hr : RdI (w.alloc (.cells #[.int .i64 65, .int .i64 86] 3)) (some ⟨w.heap.size, 0, none⟩) [65, 86] := rdI_lit w _ _ [65, 86] rfl (by decide)
  have hf := Fit_ok (some ⟨w.heap.size, 0, none⟩) 2 [65, 86] 1000 1249 false false _ (ht.alloc (.cells #[.int .i64 65, .int .i64 86] 3)) hr (by decide) (fun j hj => by
    match j, hj with
    | 0, _ => decide
    | 1, _ => decide) (by omega) (by omega) (by omega) (by omega)
  rw [show ([65, 86] : List Int).length = 2 from rfl, fit_first, wid_first] at hf
  have Hf := hide hf
  clear hf hr ht
  go_enter Tryd.func17, Tryd.ntmps17
  go_wp2_with fail
  refine Hf.out.mono ?_
  rintro e w1 ⟨rfl, hb⟩
  go_wp2_with fail
  go_ret
  exact ⟨rfl, (((Below.refl _ _).alloc (Nat.le_refl _) _)).trans (hb.mono (by simp))⟩
end Go.Proofs.YtdhhkcboejhoaaaDoor.Mtr
