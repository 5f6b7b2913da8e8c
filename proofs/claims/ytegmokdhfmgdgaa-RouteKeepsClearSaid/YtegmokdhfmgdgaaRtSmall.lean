/- The contracts of within, inside, wider, inRange, point. -/
import Derived.Test.YtegmokdhfmgdgaaRtGrid
import Derived.Test.YtegmokdhfmgdgaaWithin
namespace Go.Proofs.Ytegmokdhfmgdgaa.Rt
open Go.RowKit Go.Frm Go.Frm.Rt

/-- is a point in the inner part of a rectangle -/
def insB (f : Fr) (p : Pt) : Bool := decide (p.1 > f.x0) && decide (p.1 < f.x1) && decide (p.2 > f.y0) && decide (p.2 < f.y1)
def frV (f : Fr) : Value := .agg #[.int .i64 f.x0, .int .i64 f.y0, .int .i64 f.x1, .int .i64 f.y1]
/-- with a gap around it -/
def widF (f : Fr) (g : Int) : Fr := ⟨f.x0 - g, f.y0 - g, f.x1 + g, f.y1 + g⟩
set_option maxRecDepth 100000 in
set_option maxHeartbeats 2000000 in
theorem within_ok (f : Fr) (p : Pt) (w : World) : Calls Try.prog 26 #[frV f, ptV p] w fun e w' => e = .returned (.bool (insB f p)) ∧ Below w.heap.size w w' := by
  obtain ⟨x0, y0, x1, y1⟩ := f
  obtain ⟨px, py⟩ := p
  have HB := hide (((Below.refl w.heap.size w).alloc (Nat.le_refl _) (.cells #[.int .i64 x0, .int .i64 y0, .int .i64 x1, .int .i64 y1] 34)).alloc (by simp) (.cells #[.int .i64 px, .int .i64 py] 24))
  have HR : Hid (insB ⟨x0, y0, x1, y1⟩ (px, py) = (decide (px > x0) && decide (px < x1) && decide (py > y0) && decide (py < y1))) := hide rfl
  generalize insB ⟨x0, y0, x1, y1⟩ (px, py) = r at *
  unfold frV ptV
  cases h1 : decide (px > x0) with
  | false =>
    have HZ : Hid (r = false) := hide (by rw [HR.out, h1]; rfl)
    go_enter Try.func26, Try.ntmps26
    go_wp2_with fail
    go_ret
    exact ⟨ret_bool HZ.out.symm, HB.out⟩
  | true =>
    cases h2 : decide (px < x1) with
    | false =>
      have HZ : Hid (r = false) := hide (by rw [HR.out, h1, h2]; rfl)
      go_enter Try.func26, Try.ntmps26
      go_wp2_with fail
      go_ret
      exact ⟨ret_bool HZ.out.symm, HB.out⟩
    | true =>
      cases h3 : decide (py > y0) with
      | false =>
        have HZ : Hid (r = false) := hide (by rw [HR.out, h1, h2, h3]; rfl)
        go_enter Try.func26, Try.ntmps26
        go_wp2_with fail
        go_ret
        exact ⟨ret_bool HZ.out.symm, HB.out⟩
      | true =>
        have HZ : Hid (r = decide (py < y1)) := hide (by rw [HR.out, h1, h2, h3]; simp)
        go_enter Try.func26, Try.ntmps26
        go_wp2_with fail
        go_ret
        exact ⟨ret_bool HZ.out.symm, HB.out⟩
set_option maxRecDepth 100000 in
set_option maxHeartbeats 2000000 in
theorem inside_ok (f : Fr) (p : Pt) (w : World) : Calls Try.prog 11 #[frV f, ptV p] w fun e w' => e = .returned (.bool (insB f p)) ∧ Below w.heap.size w w' := by
  obtain ⟨x0, y0, x1, y1⟩ := f
  obtain ⟨px, py⟩ := p
  have HB := hide (((Below.refl w.heap.size w).alloc (Nat.le_refl _) (.cells #[.int .i64 x0, .int .i64 y0, .int .i64 x1, .int .i64 y1] 34)).alloc (by simp) (.cells #[.int .i64 px, .int .i64 py] 24))
  have HR : Hid (insB ⟨x0, y0, x1, y1⟩ (px, py) = (decide (px > x0) && decide (px < x1) && decide (py > y0) && decide (py < y1))) := hide rfl
  generalize insB ⟨x0, y0, x1, y1⟩ (px, py) = r at *
  unfold frV ptV
  cases h1 : decide (px > x0) with
  | false =>
    have HZ : Hid (r = false) := hide (by rw [HR.out, h1]; rfl)
    go_enter Try.func11, Try.ntmps11
    go_wp2_with fail
    go_ret
    exact ⟨ret_bool HZ.out.symm, HB.out⟩
  | true =>
    cases h2 : decide (px < x1) with
    | false =>
      have HZ : Hid (r = false) := hide (by rw [HR.out, h1, h2]; rfl)
      go_enter Try.func11, Try.ntmps11
      go_wp2_with fail
      go_ret
      exact ⟨ret_bool HZ.out.symm, HB.out⟩
    | true =>
      cases h3 : decide (py > y0) with
      | false =>
        have HZ : Hid (r = false) := hide (by rw [HR.out, h1, h2, h3]; rfl)
        go_enter Try.func11, Try.ntmps11
        go_wp2_with fail
        go_ret
        exact ⟨ret_bool HZ.out.symm, HB.out⟩
      | true =>
        have HZ : Hid (r = decide (py < y1)) := hide (by rw [HR.out, h1, h2, h3]; simp)
        go_enter Try.func11, Try.ntmps11
        go_wp2_with fail
        go_ret
        exact ⟨ret_bool HZ.out.symm, HB.out⟩
theorem inRange_ok (n : Int) (w : World) : Calls Try.prog 18 #[.int .i64 n] w fun e w' => e = .returned (.bool (decide (n ≥ -100000) && decide (n ≤ 100000))) ∧ w' = w := by
  cases h1 : decide (n ≥ -100000) with
  | false =>
    go_enter Try.func18, Try.ntmps18
    go_wp2_with fail
    go_ret
    exact ⟨rfl, rfl⟩
  | true =>
    go_enter Try.func18, Try.ntmps18
    go_wp2_with fail
    go_ret
    exact ⟨ret_bool (by simp), rfl⟩
theorem wider_ok (f : Fr) (g : Int) (hg : 0 ≤ g ∧ g ≤ 1000) (h0 : -1000000 ≤ f.x0 ∧ f.x0 ≤ 1000000) (h1 : -1000000 ≤ f.y0 ∧ f.y0 ≤ 1000000) (h2 : -1000000 ≤ f.x1 ∧ f.x1 ≤ 1000000) (h3 : -1000000 ≤ f.y1 ∧ f.y1 ≤ 1000000) (w : World) :
    Calls Try.prog 25 #[frV f, .int .i64 g] w fun e w' => e = .returned (frV (widF f g)) ∧ Below w.heap.size w w' := by
  obtain ⟨x0, y0, x1, y1⟩ := f
  dsimp only at h0 h1 h2 h3
  unfold frV widF
  have HB := hide (((Below.refl w.heap.size w).alloc (Nat.le_refl _) (.cells #[.int .i64 x0, .int .i64 y0, .int .i64 x1, .int .i64 y1] 34)).alloc (by simp) (.cells #[.int .i64 (x0 - g), .int .i64 (y0 - g), .int .i64 (x1 + g), .int .i64 (y1 + g)] 34))
  go_enter Try.func25, Try.ntmps25
  go_wp2_with fail
  refine bodyPost_ret (v := .agg #[.int .i64 (x0 - g), .int .i64 (y0 - g), .int .i64 (x1 + g), .int .i64 (y1 + g)]) ?hres rfl ?_
  case hres => (rw [results_cell1 rfl]; go_simp)
  exact ⟨rfl, HB.out⟩
set_option maxRecDepth 100000 in
set_option maxHeartbeats 2000000 in
theorem point_ok (p : Pt) (hx : (Lit.int .i64 p.1).wf = true) (hy : (Lit.int .i64 p.2).wf = true) (w : World) :
    Calls Try.prog 8 #[ptV p] w fun e w' => e = .returned (ptV (Wi.wi p.1 (-1200) 1200, Wi.wi p.2 (-1200) 1200)) ∧ Below w.heap.size w w' := by
  obtain ⟨px, py⟩ := p
  dsimp only at hx hy
  have h1 := hide (fun wx => Wi.within_any px (-1200) 1200 wx hx (by decide) (by decide) (by decide))
  have h2 := hide (fun wx => Wi.within_any py (-1200) 1200 wx hy (by decide) (by decide) (by decide))
  unfold ptV
  dsimp only
  generalize Wi.wi px (-1200) 1200 = qx at *
  generalize Wi.wi py (-1200) 1200 = qy at *
  have HB := hide ((((Below.refl w.heap.size w).alloc (Nat.le_refl _) (.cells #[.int .i64 px, .int .i64 py] 24)).alloc (by simp) (.cells #[.int .i64 qx, .int .i64 qy] 24)))
  go_enter Try.func8, Try.ntmps8
  go_upto_region 1 with fail
  have hp := (Blk.new w 24 #[.int .i64 px, .int .i64 py]).alloc (.cells #[.int .i64 0, .int .i64 0] 24)
  have hq := Blk.new (w.alloc (.cells #[.int .i64 px, .int .i64 py] 24)) 24 #[.int .i64 0, .int .i64 0]
  rw [hsz_alloc] at hq
  have hb := ((Below.refl w.heap.size w).alloc (Nat.le_refl _) (.cells #[.int .i64 px, .int .i64 py] 24)).alloc (by simp) (.cells #[.int .i64 0, .int .i64 0] 24)
  obtain ⟨g, Hg⟩ : ∃ g, Hid (g = w.heap.size) := ⟨_, rfl⟩
  rw [← Hg.out] at hp hq
  rw [← Hg.out]
  generalize (w.alloc (.cells #[.int .i64 px, .int .i64 py] 24)).alloc (.cells #[.int .i64 0, .int .i64 0] 24) = w1 at *
  have Hb := hide hb
  have p0 : w1.cell? ⟨g, 0, none⟩ = some (.int .i64 px) := hp.cell 0
  have p1 : w1.cell? ⟨g, 1, none⟩ = some (.int .i64 py) := hp.cell 1
  have q0 : w1.cell? ⟨g + 1, 0, none⟩ = some (.int .i64 0) := hq.cell 0
  have q1 : w1.cell? ⟨g + 1, 1, none⟩ = some (.int .i64 0) := hq.cell 1
  have f0 := hq.frozen 0
  have f1 := hq.frozen 1
  clear hb hp hq HB
  refine wp_region_sink (S := fun w' : World => w'.cell? ⟨g, 0, none⟩ = some (.int .i64 px) ∧ w'.cell? ⟨g, 1, none⟩ = some (.int .i64 py)) 7 (by kernel_rfl) (by kernel_rfl) (by kernel_rfl) (by kernel_rfl) ?hSs (fun hHeld => ?_)
  case hSs => exact ⟨p0, p1⟩
  simp only [List.take_succ_cons, List.take_zero]
  refine wpAnyH_take (i := 0) (v := ?vsn0) rfl (by kernel_rfl) (by kernel_rfl) (by kernel_rfl) (fun _ _ _ h => h) (Or.inl ⟨by rfl, ?hysn0⟩) (by assumption) ?_
  case hysn0 => (intro w hSw; (try dsimp only at hSw); go_simp; try with_reducible rfl)
  try simp only [Act.put, List.getElem_toArray, List.getElem_cons_zero, List.getElem_cons_succ, List.setIfInBounds_toArray, List.set_cons_zero, List.set_cons_succ]
  refine wpAnyH_take (i := 1) (v := ?vsn1) rfl (by kernel_rfl) (by kernel_rfl) (by kernel_rfl) (fun _ _ _ h => h) (Or.inl ⟨by rfl, ?hysn1⟩) (by assumption) ?_
  case hysn1 => (intro w hSw; (try dsimp only at hSw); go_simp; try with_reducible rfl)
  try simp only [Act.put, List.getElem_toArray, List.getElem_cons_zero, List.getElem_cons_succ, List.setIfInBounds_toArray, List.set_cons_zero, List.set_cons_succ]
  refine wpAnyH_take (i := 3) (v := ?vsn3) rfl (by kernel_rfl) (by kernel_rfl) (by kernel_rfl) (fun _ _ _ h => h) (Or.inl ⟨by rfl, ?hysn3⟩) (by assumption) ?_
  case hysn3 => (intro w hSw; (try dsimp only at hSw); go_simp; try with_reducible rfl)
  try simp only [Act.put, List.getElem_toArray, List.getElem_cons_zero, List.getElem_cons_succ, List.setIfInBounds_toArray, List.set_cons_zero, List.set_cons_succ]
  refine wpAnyH_take (i := 4) (v := ?vsn4) rfl (by kernel_rfl) (by kernel_rfl) (by kernel_rfl) (fun _ _ _ h => h) (Or.inl ⟨by rfl, ?hysn4⟩) (by assumption) ?_
  case hysn4 => (intro w hSw; (try dsimp only at hSw); go_simp; try with_reducible rfl)
  try simp only [Act.put, List.getElem_toArray, List.getElem_cons_zero, List.getElem_cons_succ, List.setIfInBounds_toArray, List.set_cons_zero, List.set_cons_succ]
  refine wpAnyH_ready (rs := [2]) (by kernel_rfl) (by simp) (AllReadyH.cons rfl (fun K hK => ?_) AllReadyH.nil)
  go_simp
  go_at_call 9
  refine (h1.out _).mono ?_
  rintro e9 w9 ⟨rfl, rfl⟩
  go_wp2_with fail
  refine hK.out _ _ ?hksn2 (fun hHeld => ?_)
  case hksn2 => exact hHeld
  clear hK K
  try simp only [Act.put, List.getElem_toArray, List.getElem_cons_zero, List.getElem_cons_succ, List.setIfInBounds_toArray, List.set_cons_zero, List.set_cons_succ]
  refine wpAnyH_ready (rs := [5]) (by kernel_rfl) (by simp) (AllReadyH.cons rfl (fun K hK => ?_) AllReadyH.nil)
  go_simp
  go_at_call 9
  refine (h2.out _).mono ?_
  rintro e9 w9 ⟨rfl, rfl⟩
  go_wp2_with fail
  refine hK.out _ _ ?hksn5 (fun hHeld => ?_)
  case hksn5 => exact hHeld
  clear hK K
  try simp only [Act.put, List.getElem_toArray, List.getElem_cons_zero, List.getElem_cons_succ, List.setIfInBounds_toArray, List.set_cons_zero, List.set_cons_succ]
  refine wpAnyH_take (i := 6) (v := ?vsn6) rfl (by kernel_rfl) (by kernel_rfl) (by kernel_rfl) (fun _ _ _ h => h) (Or.inl ⟨by rfl, ?hysn6⟩) (by assumption) ?_
  case hysn6 => (intro w hSw; (try dsimp only at hSw); go_simp; try with_reducible rfl)
  try simp only [Act.put, List.getElem_toArray, List.getElem_cons_zero, List.getElem_cons_succ, List.setIfInBounds_toArray, List.set_cons_zero, List.set_cons_succ]
  refine wpAnyH_done (by kernel_rfl) ?_ _
  refine sink_run rfl rfl ?_
  go_simp
  go_wp2_with fail
  refine bodyPost_ret (v := .agg #[.int .i64 qx, .int .i64 qy]) ?hres rfl ?_
  case hres => (rw [results_cell1 rfl]; go_simp)
  exact ⟨rfl, by
    first
      | exact (below_drewN Hb.out 1).setCell (p := ⟨g + 1, 0, none⟩) (by show w.heap.size ≤ g + 1; rw [Hg.out]; omega) (.int .i64 qx) |>.setCell (p := ⟨g + 1, 1, none⟩) (by show w.heap.size ≤ g + 1; rw [Hg.out]; omega) (.int .i64 qy)⟩
end Go.Proofs.Ytegmokdhfmgdgaa.Rt
