/- PROVED HERE: whatever the rectangles, the points and the directions, chancerykeep3.RouteKeepsClear returns true. No condition beside those of the given statement. -/
import Derived.Test.YtegmokdhfmgdgaaRtRow
import Derived.Test.YtegmokdhfmgdgaaRtArgs
import Derived.Test.YtegmokdhfmgdgaaRtWays
import Derived.Test.YtegmokdhfmgdgaaRtFrames
import Derived.Test.YtegmokdhfmgdgaaRtTurn
import Derived.Test.YtegmokdhfmgdgaaRtKeepPlain
import Derived.Test.YtegmokdhfmgdgaaRtStep
import Derived.Test.YtegmokdhfmgdgaaBoxes
import Derived.BigQuiet
import Derived.Test.YtegmokdhfmgdgaaChecked
import Derived.Test.YtegmokdhfmgdgaaRows
namespace Go.Proofs.Ytegmokdhfmgdgaa.RouteKeepsClearDone
open Go.RowKit Go.Frm Go.ChangeShapes Go.WideShapes Go.ChangeAt Go.Frm.Rt Rt

theorem mkF_ok (f : Fr) : okF (mkF f) := by
  have d1 := Wi.wi_bd f.x0 (low := -900) (high := 900) (by decide)
  have d2 := Wi.wi_bd f.y0 (low := -900) (high := 900) (by decide)
  have d3 := Wi.wi_bd f.x1 (low := 0) (high := 500) (by decide)
  have d4 := Wi.wi_bd f.y1 (low := 0) (high := 500) (by decide)
  unfold okF okR mkF
  dsimp only
  omega
set_option maxRecDepth 100000 in
set_option maxHeartbeats 40000000 in
theorem walk (A : Option Addr) (n c : Nat) (fs : Nat → Fr) (p q : Pt) (first last : Int) (w : World) (hn : n ≤ 9223372036854775807) (hr : RdF w A n 4 (frF fs)) (hf : ∀ i, i < n → wfI (fs i).x0 ∧ wfI (fs i).y0 ∧ wfI (fs i).x1 ∧ wfI (fs i).y1) (hp : wfI p.1 ∧ wfI p.2) (hq : wfI q.1 ∧ wfI q.2) (hfi : wfI first) (hla : wfI last) :
    Calls Try.prog 3 #[.slice A n c, ptV p, ptV q, .int .i64 first, .int .i64 last] w fun e w' => e = .returned (.bool true) ∧ Below w.heap.size w w' := by
  obtain ⟨M, hM⟩ : ∃ M, M = w.heap.size := ⟨_, rfl⟩
  have HM := hide hM
  rw [← hM]
  have HW := hide (fun wx => ways_ok wx)
  have HFr := hide (fun wx (h : Below M w wx) => frames_ok (w := wx) (c := c) (hr.below (by rw [← hM]; exact h)) hn hf)
  have HP := hide (fun wx => point_ok p hp.1 hp.2 wx)
  have HQ := hide (fun wx => point_ok q hq.1 hq.2 wx)
  have HI1 := hide (fun wx => Wi.within_any first (-1) 3 wx hfi (by decide) (by decide) (by decide))
  have HI2 := hide (fun wx => Wi.within_any last (-1) 3 wx hla (by decide) (by decide) (by decide))
  have hb1 := Wi.wi_bd first (low := -1) (high := 3) (by decide)
  have hb2 := Wi.wi_bd last (low := -1) (high := 3) (by decide)
  clear hfi hla
  obtain ⟨px, py⟩ := p
  obtain ⟨qx, qy⟩ := q
  unfold ptV at HP HQ ⊢
  dsimp only at HP HQ ⊢
  have e1 := Wi.wi_bd px (low := -1200) (high := 1200) (by decide)
  have e2 := Wi.wi_bd py (low := -1200) (high := 1200) (by decide)
  have e3 := Wi.wi_bd qx (low := -1200) (high := 1200) (by decide)
  have e4 := Wi.wi_bd qy (low := -1200) (high := 1200) (by decide)
  have HE : Hid ((okR (Wi.wi px (-1200) 1200) ∧ okR (Wi.wi py (-1200) 1200)) ∧ okR (Wi.wi qx (-1200) 1200) ∧ okR (Wi.wi qy (-1200) 1200)) := hide (by unfold okR; omega)
  have HE2 : Hid ((-1200 ≤ Wi.wi px (-1200) 1200 ∧ Wi.wi px (-1200) 1200 ≤ 1200) ∧ -1200 ≤ Wi.wi qx (-1200) 1200 ∧ Wi.wi qx (-1200) 1200 ≤ 1200) := hide ⟨e1, e3⟩
  clear e1 e2 e3 e4 hr hf hp hq hM hn
  generalize Wi.wi px (-1200) 1200 = PX at *
  generalize Wi.wi py (-1200) 1200 = PY at *
  generalize Wi.wi qx (-1200) 1200 = QX at *
  generalize Wi.wi qy (-1200) 1200 = QY at *
  generalize Wi.wi first (-1) 3 = F1 at *
  generalize Wi.wi last (-1) 3 = L1 at *
  have bp0 := (Blk.new w 24 #[.int .i64 px, .int .i64 py]).alloc (.cells #[.int .i64 qx, .int .i64 qy] 24)
  have bq0 := Blk.new (w.alloc (.cells #[.int .i64 px, .int .i64 py] 24)) 24 #[.int .i64 qx, .int .i64 qy]
  have hbe := ((Below.refl w.heap.size w).alloc (Nat.le_refl _) (.cells #[.int .i64 px, .int .i64 py] 24)).alloc (by simp) (.cells #[.int .i64 qx, .int .i64 qy] 24)
  rw [hsz_alloc] at bq0
  rw [← HM.out] at bp0 bq0 hbe
  have BP0 := hide bp0
  have BQ0 := hide bq0
  have HB0 := hide hbe
  clear bp0 bq0 hbe
  go_enter Try.func3, Try.ntmps3
  go_upto_region 1 with fail
  rw [← HM.out]
  generalize (w.alloc (.cells #[.int .i64 px, .int .i64 py] 24)).alloc (.cells #[.int .i64 qx, .int .i64 qy] 24) = w0 at *
  go_upto_region 3 with (go_at_call 6; refine (HW.out w0).mono ?_; rintro e w1 ⟨rfl, hb1'⟩)
  have BP1 := hide (BP0.out.below hb1' BP0.out.lt)
  have BQ1 := hide (BQ0.out.below hb1' BQ0.out.lt)
  have HB1 := hide (HB0.out.trans (hb1'.mono (Nat.le_trans (Nat.le_of_eq HM.out) HB0.out.size)))
  clear hb1' BP0 BQ0 HB0 HW
  have p0 : w1.cell? ⟨M, 0, none⟩ = some (.int .i64 px) := BP1.out.cell 0
  have p1 : w1.cell? ⟨M, 1, none⟩ = some (.int .i64 py) := BP1.out.cell 1
  have q0 : w1.cell? ⟨M + 1, 0, none⟩ = some (.int .i64 qx) := BQ1.out.cell 0
  have q1 : w1.cell? ⟨M + 1, 1, none⟩ = some (.int .i64 qy) := BQ1.out.cell 1
  have hsz : M + 1 < w1.heap.size := BQ1.out.lt
  have HFr1 := hide (HFr.out w1.drew (below_drewN HB1.out 1))
  clear HFr
  refine wp_region_listed (S := fun l w' => (l.getD 7 true = false → w'.cell? ⟨M, 0, none⟩ = some (.int .i64 px)) ∧ (l.getD 7 true = false → w'.cell? ⟨M, 1, none⟩ = some (.int .i64 py)) ∧ (l.getD 8 true = false → w'.cell? ⟨M + 1, 0, none⟩ = some (.int .i64 qx)) ∧ (l.getD 8 true = false → w'.cell? ⟨M + 1, 1, none⟩ = some (.int .i64 qy))) (by kernel_rfl) ?hSr (fun hHeld => ?_)
  case hSr => exact ⟨fun _ => p0, fun _ => p1, fun _ => q0, fun _ => q1⟩
  refine wpAnyL_take (i := 0) (v := ?vr0) rfl (by kernel_rfl) (by kernel_rfl) (by kernel_rfl) (by kernel_rfl) (fun _ _ _ h => h) ?hsr0 (Or.inl ⟨by rfl, ?hyr0⟩) (by assumption) (fun hHeld => ?_)
  case hsr0 => (intro l w; (try dsimp only); simp only [Go.getD_set_ne true (show (0 : Nat) ≠ 7 by decide), Go.getD_set_ne true (show (0 : Nat) ≠ 8 by decide)])
  case hyr0 => (intro w hSw; obtain ⟨l, hl, hc, hSw⟩ := hSw; (try dsimp only at hSw); obtain ⟨c0, c1, c2, c3⟩ := hSw; clear hc hl; go_simp; try with_reducible rfl)
  try simp only [Act.put, List.getElem_toArray, List.getElem_cons_zero, List.getElem_cons_succ, List.setIfInBounds_toArray, List.set_cons_zero, List.set_cons_succ]
  refine wpAnyL_take (i := 2) (v := ?vr2) rfl (by kernel_rfl) (by kernel_rfl) (by kernel_rfl) (by kernel_rfl) (fun _ _ _ h => h) ?hsr2 (Or.inl ⟨by rfl, ?hyr2⟩) (by assumption) (fun hHeld => ?_)
  case hsr2 => (intro l w; (try dsimp only); simp only [Go.getD_set_ne true (show (2 : Nat) ≠ 7 by decide), Go.getD_set_ne true (show (2 : Nat) ≠ 8 by decide)])
  case hyr2 => (intro w hSw; obtain ⟨l, hl, hc, hSw⟩ := hSw; (try dsimp only at hSw); obtain ⟨c0, c1, c2, c3⟩ := hSw; replace c0 := c0 (hc.waits 24 (by decide +kernel) hl); replace c1 := c1 (hc.waits 24 (by decide +kernel) hl); clear hc hl; go_simp; try with_reducible rfl)
  try simp only [Act.put, List.getElem_toArray, List.getElem_cons_zero, List.getElem_cons_succ, List.setIfInBounds_toArray, List.set_cons_zero, List.set_cons_succ]
  refine wpAnyL_take (i := 4) (v := ?vr4) rfl (by kernel_rfl) (by kernel_rfl) (by kernel_rfl) (by kernel_rfl) (fun _ _ _ h => h) ?hsr4 (Or.inl ⟨by rfl, ?hyr4⟩) (by assumption) (fun hHeld => ?_)
  case hsr4 => (intro l w; (try dsimp only); simp only [Go.getD_set_ne true (show (4 : Nat) ≠ 7 by decide), Go.getD_set_ne true (show (4 : Nat) ≠ 8 by decide)])
  case hyr4 => (intro w hSw; obtain ⟨l, hl, hc, hSw⟩ := hSw; (try dsimp only at hSw); obtain ⟨c0, c1, c2, c3⟩ := hSw; replace c2 := c2 (hc.waits 24 (by decide +kernel) hl); replace c3 := c3 (hc.waits 24 (by decide +kernel) hl); clear hc hl; go_simp; try with_reducible rfl)
  try simp only [Act.put, List.getElem_toArray, List.getElem_cons_zero, List.getElem_cons_succ, List.setIfInBounds_toArray, List.set_cons_zero, List.set_cons_succ]
  refine wpAnyL_ready (rs := [1]) (by kernel_rfl) (by simp) (AllReadyL.cons rfl (fun K hK => ?_) AllReadyL.nil)
  go_simp
  go_at_call 7
  refine HFr1.out.mono ?_
  rintro e w2 ⟨A2, m2, c2, rfl, hm8, hmn, hown2, hb2', hmn2⟩
  have HB2 := hide ((below_drewN HB1.out 1).trans (hb2'.mono (show M ≤ w1.drew.heap.size from (Nat.le_trans (Nat.le_of_eq HM.out) HB1.out.size))))
  have hs2 : w1.heap.size ≤ w2.heap.size := hb2'.size
  have BP2 := hide (Blk.below (w := w1.drew) BP1.out hb2' BP1.out.lt)
  have BQ2 := hide (Blk.below (w := w1.drew) BQ1.out hb2' BQ1.out.lt)
  have HO2 := hide (ownsRow_less hown2 (b' := M + 2) (show M + 2 ≤ w1.drew.heap.size from hsz))
  clear hb2' hown2 BP1 BQ1 HB1 HFr1 p0 p1 q0 q1
  go_wp2_with fail
  refine hK.out _ _ ?hkr1 (fun hHeld => ?_)
  case hkr1 => exact ⟨fun _ => BP2.out.cell 0, fun _ => BP2.out.cell 1, fun _ => BQ2.out.cell 0, fun _ => BQ2.out.cell 1⟩
  clear hK K
  try simp only [Act.put, List.getElem_toArray, List.getElem_cons_zero, List.getElem_cons_succ, List.setIfInBounds_toArray, List.set_cons_zero, List.set_cons_succ]
  refine wpAnyL_ready (rs := [3]) (by kernel_rfl) (by simp) (AllReadyL.cons rfl (fun K hK => ?_) AllReadyL.nil)
  go_simp
  go_at_call 8
  refine (HP.out w2).mono ?_
  rintro e w3 ⟨rfl, hbx⟩
  have HB3 := hide (HB2.out.trans (hbx.mono (Nat.le_trans (Nat.le_of_eq HM.out) HB2.out.size)))
  have hs3 : w1.heap.size ≤ w3.heap.size := Nat.le_trans hs2 hbx.size
  have BP3 := hide (BP2.out.below hbx BP2.out.lt)
  have BQ3 := hide (BQ2.out.below hbx BQ2.out.lt)
  have HO3 := hide (own_below HO2.out hbx)
  clear hbx HB2 BP2 BQ2 HO2 hs2 HP
  go_wp2_with fail
  refine hK.out _ _ ?hkr3 (fun hHeld => ?_)
  case hkr3 => exact ⟨fun _ => BP3.out.cell 0, fun _ => BP3.out.cell 1, fun _ => BQ3.out.cell 0, fun _ => BQ3.out.cell 1⟩
  clear hK K
  try simp only [Act.put, List.getElem_toArray, List.getElem_cons_zero, List.getElem_cons_succ, List.setIfInBounds_toArray, List.set_cons_zero, List.set_cons_succ]
  refine wpAnyL_ready (rs := [5]) (by kernel_rfl) (by simp) (AllReadyL.cons rfl (fun K hK => ?_) AllReadyL.nil)
  go_simp
  go_at_call 8
  refine (HQ.out w3).mono ?_
  rintro e w4 ⟨rfl, hbx⟩
  have HB4 := hide (HB3.out.trans (hbx.mono (Nat.le_trans (Nat.le_of_eq HM.out) HB3.out.size)))
  have hs4 : w1.heap.size ≤ w4.heap.size := Nat.le_trans hs3 hbx.size
  have BP4 := hide (BP3.out.below hbx BP3.out.lt)
  have BQ4 := hide (BQ3.out.below hbx BQ3.out.lt)
  have HO4 := hide (own_below HO3.out hbx)
  clear hbx HB3 BP3 BQ3 HO3 hs3 HQ
  go_wp2_with fail
  refine hK.out _ _ ?hkr5 (fun hHeld => ?_)
  case hkr5 => exact ⟨fun _ => BP4.out.cell 0, fun _ => BP4.out.cell 1, fun _ => BQ4.out.cell 0, fun _ => BQ4.out.cell 1⟩
  clear hK K
  try simp only [Act.put, List.getElem_toArray, List.getElem_cons_zero, List.getElem_cons_succ, List.setIfInBounds_toArray, List.set_cons_zero, List.set_cons_succ]
  refine wpAnyL_take (i := 6) (v := ?vr6) rfl (by kernel_rfl) (by kernel_rfl) (by kernel_rfl) (by kernel_rfl) (fun _ _ _ h => h) ?hsr6 (Or.inl ⟨by rfl, ?hyr6⟩) (by assumption) (fun hHeld => ?_)
  case hsr6 => (intro l w; (try dsimp only); simp only [Go.getD_set_ne true (show (6 : Nat) ≠ 7 by decide), Go.getD_set_ne true (show (6 : Nat) ≠ 8 by decide)])
  case hyr6 => (intro w hSw; obtain ⟨l, hl, hc, hSw⟩ := hSw; (try dsimp only at hSw); obtain ⟨c0, c1, c2, c3⟩ := hSw; clear hc hl; go_simp; try with_reducible rfl)
  try simp only [Act.put, List.getElem_toArray, List.getElem_cons_zero, List.getElem_cons_succ, List.setIfInBounds_toArray, List.set_cons_zero, List.set_cons_succ]
  have p0 : w4.cell? ⟨M, 0, none⟩ = some (.int .i64 px) := BP4.out.cell 0
  have p1 : w4.cell? ⟨M, 1, none⟩ = some (.int .i64 py) := BP4.out.cell 1
  have fp0 := BP4.out.frozen 0
  have fp1 := BP4.out.frozen 1
  refine wpAnyL_ready (rs := [7]) (by kernel_rfl) (by simp) (AllReadyL.cons rfl (fun K hK => ?_) AllReadyL.nil)
  go_simp
  refine hK.out _ _ ?hkr7 (fun hHeld => ?_)
  case hkr7 => exact ⟨fun h => absurd h (by decide), fun h => absurd h (by decide), fun _ => ((BQ4.out.far (p := ⟨M, 0, none⟩) (show M + 1 ≠ M by omega) (.int .i64 PX)).far (p := ⟨M, 1, none⟩) (show M + 1 ≠ M by omega) (.int .i64 PY)).cell 0, fun _ => ((BQ4.out.far (p := ⟨M, 0, none⟩) (show M + 1 ≠ M by omega) (.int .i64 PX)).far (p := ⟨M, 1, none⟩) (show M + 1 ≠ M by omega) (.int .i64 PY)).cell 1⟩
  clear hK K
  try simp only [Act.put, List.getElem_toArray, List.getElem_cons_zero, List.getElem_cons_succ, List.setIfInBounds_toArray, List.set_cons_zero, List.set_cons_succ]
  have BP5 := hide ((BP4.out.set_ 0 (.int .i64 PX)).set_ 1 (.int .i64 PY))
  have BQ5 := hide ((BQ4.out.far (p := ⟨M, 0, none⟩) (show M + 1 ≠ M by omega) (.int .i64 PX)).far (p := ⟨M, 1, none⟩) (show M + 1 ≠ M by omega) (.int .i64 PY))
  have HB5 := hide ((HB4.out.setCell (p := ⟨M, 0, none⟩) (Nat.le_refl _) (.int .i64 PX)).setCell (p := ⟨M, 1, none⟩) (Nat.le_refl _) (.int .i64 PY))
  have HO5 := hide (own_setCell_low (own_setCell_low HO4.out (a := ⟨M, 0, none⟩) (show M < M + 2 by omega) (.int .i64 PX)) (a := ⟨M, 1, none⟩) (show M < M + 2 by omega) (.int .i64 PY))
  clear p0 p1 fp0 fp1 BP4 BQ4 HB4 HO4 hs4
  generalize (w4.setCell ⟨M, 0, none⟩ (.int .i64 PX)).setCell ⟨M, 1, none⟩ (.int .i64 PY) = w5 at *
  have q0 : w5.cell? ⟨M + 1, 0, none⟩ = some (.int .i64 qx) := BQ5.out.cell 0
  have q1 : w5.cell? ⟨M + 1, 1, none⟩ = some (.int .i64 qy) := BQ5.out.cell 1
  have fq0 := BQ5.out.frozen 0
  have fq1 := BQ5.out.frozen 1
  refine wpAnyL_ready (rs := [8]) (by kernel_rfl) (by simp) (AllReadyL.cons rfl (fun K hK => ?_) AllReadyL.nil)
  go_simp
  refine hK.out _ _ ?hkr8 (fun hHeld => ?_)
  case hkr8 => exact ⟨fun h => absurd h (by decide), fun h => absurd h (by decide), fun h => absurd h (by decide), fun h => absurd h (by decide)⟩
  clear hK K
  try simp only [Act.put, List.getElem_toArray, List.getElem_cons_zero, List.getElem_cons_succ, List.setIfInBounds_toArray, List.set_cons_zero, List.set_cons_succ]
  have BP6 := hide ((BP5.out.far (p := ⟨M + 1, 0, none⟩) (show M ≠ M + 1 by omega) (.int .i64 QX)).far (p := ⟨M + 1, 1, none⟩) (show M ≠ M + 1 by omega) (.int .i64 QY))
  have BQ6 := hide ((BQ5.out.set_ 0 (.int .i64 QX)).set_ 1 (.int .i64 QY))
  have HB6 := hide ((HB5.out.setCell (p := ⟨M + 1, 0, none⟩) (show M ≤ M + 1 by omega) (.int .i64 QX)).setCell (p := ⟨M + 1, 1, none⟩) (show M ≤ M + 1 by omega) (.int .i64 QY))
  have HR6 := hide (RdF.of_own (own_setCell_low (own_setCell_low HO5.out (a := ⟨M + 1, 0, none⟩) (show M + 1 < M + 2 by omega) (.int .i64 QX)) (a := ⟨M + 1, 1, none⟩) (show M + 1 < M + 2 by omega) (.int .i64 QY)))
  clear q0 q1 fq0 fq1 BP5 BQ5 HB5 HO5 hHeld hmn hmn2
  generalize (w5.setCell ⟨M + 1, 0, none⟩ (.int .i64 QX)).setCell ⟨M + 1, 1, none⟩ (.int .i64 QY) = w6 at *
  have BP : Hid (Blk w6 M 24 #[.int .i64 PX, .int .i64 PY]) := BP6
  have BQ : Hid (Blk w6 (M + 1) 24 #[.int .i64 QX, .int .i64 QY]) := BQ6
  clear BP6 BQ6
  refine wpAnyL_done (by kernel_rfl) ?_ _
  have HFd := hide (fun wx (h : Below w6.heap.size w6 wx) => find_way_ok (w := wx) (c := c2) (HR6.out.below h) (by omega) (fun i _ => mkF_ok (fs i)) (PX, PY) (QX, QY) HE.out.1 HE.out.2 F1 L1 hb1 hb2)
  have Hb1 := hide hb1
  have Hb2 := hide hb2
  unfold ptV at HFd
  dsimp only at HFd
  clear hb1 hb2 hsz
  go_simp
  go_upto_region 5 with (go_at_call 9; first | (with_reducible refine (HI1.out _).mono ?_; rintro e wx ⟨rfl, rfl⟩) | (with_reducible refine (HI2.out _).mono ?_; rintro e wx ⟨rfl, rfl⟩))
  have p0 : w6.cell? ⟨M, 0, none⟩ = some (.int .i64 PX) := BP.out.cell 0
  have p1 : w6.cell? ⟨M, 1, none⟩ = some (.int .i64 PY) := BP.out.cell 1
  have q0 : w6.cell? ⟨M + 1, 0, none⟩ = some (.int .i64 QX) := BQ.out.cell 0
  have q1 : w6.cell? ⟨M + 1, 1, none⟩ = some (.int .i64 QY) := BQ.out.cell 1
  clear HI1 HI2
  go_upto_region 6 with (go_at_call 10; refine (HFd.out w6 (Below.refl _ _)).mono ?_; rintro e w7 ⟨A7, m7, c7, Q7, g7, rfl, ho7, hb7, hp7⟩)
  obtain ⟨hg, hm0, hq0, hq1, hpt⟩ := keep_plain Hb1.out Hb2.out (fun i _ => mkF_ok (fs i)) hp7
  have hm7 := ho7.2
  have hrow := RdF.of_own ho7.1
  have HB7 := hide (HB6.out.trans (hb7.mono (Nat.le_trans (Nat.le_of_eq HM.out) HB6.out.size)))
  have BP7 := hide (BP.out.below hb7 BP.out.lt)
  have BQ7 := hide (BQ.out.below hb7 BQ.out.lt)
  have HR7 := hide (HR6.out.below hb7)
  clear p0 p1 q0 q1 ho7 hp7 hb7 HFd BP BQ HR6 HB6 Hb1 Hb2 HE HE2
  rcases hrow with h0 | ⟨rb, ro, rfl, hc7⟩
  · omega
  have HC7 : Hid (∀ wx, Below w7.heap.size w7 wx → ∀ i, i < m7 → wx.cell? ⟨rb, ro + i * 2, none⟩ = some (.int .i64 (Q7 i).1) ∧ wx.cell? ⟨rb, ro + i * 2 + 1, none⟩ = some (.int .i64 (Q7 i).2)) := hide (fun wx hb i hi => by
    have h1 : w7.cell? ⟨rb, ro + i * 2, none⟩ = some (.int .i64 (Q7 i).1) := hc7 i 0 hi (by omega)
    have h2 : w7.cell? ⟨rb, ro + i * 2 + 1, none⟩ = some (.int .i64 (Q7 i).2) := hc7 i 1 hi (by omega)
    exact ⟨(hb.cell (World.block_lt_of_cell? _ _ h1)).trans h1, (hb.cell (World.block_lt_of_cell? _ _ h2)).trans h2⟩)
  have Hpt := hide hpt
  have Hg := hide hg
  have HQ0 := hide hq0
  have HQ1 := hide hq1
  clear hc7 hpt hg hq0 hq1
  go_cut [78] (fun v wc => v = .bool false ∧ ∃ k, wc = w7.drewN k)
  case first => as_aux_lemma =>
    have p0 : w7.cell? ⟨M, 0, none⟩ = some (.int .i64 PX) := BP7.out.cell 0
    have p1 : w7.cell? ⟨M, 1, none⟩ = some (.int .i64 PY) := BP7.out.cell 1
    have q0 : w7.cell? ⟨M + 1, 0, none⟩ = some (.int .i64 QX) := BQ7.out.cell 0
    have q1 : w7.cell? ⟨M + 1, 1, none⟩ = some (.int .i64 QY) := BQ7.out.cell 1
    obtain ⟨ml, Hml⟩ : ∃ z, Hid (z = m7 - 1) := ⟨_, rfl⟩
    obtain ⟨r0, r1⟩ := HC7.out w7 (Below.refl _ _) 0 hm0
    obtain ⟨s0, s1⟩ := HC7.out w7 (Below.refl _ _) (m7 - 1) (by omega)
    rw [HQ0.out, Nat.zero_mul, Nat.add_zero] at r0 r1
    rw [HQ1.out, ← Hml.out] at s0 s1
    dsimp only at r0 r1 s0 s1
    have u1 : ((m7 : Int) == 0) = false := beq_eq_false_iff_ne.2 (by omega)
    have u2 : (m7 : Int) - 1 = (ml : Int) := by have := Hml.out; omega
    have u3 : IntKind.i64.wrap ((m7 : Int) - 1) = (ml : Int) := by rw [u2]; exact IntWalk.i64_in _ (by omega)
    have u4 : (ml : Int) < (m7 : Int) := by omega
    have u5 : (0 : Int) < (m7 : Int) := by omega
    have u6 : (0 : Int) ≤ (ml : Int) := by omega
    clear u2 HC7 Hpt HQ0 HQ1 BP7 BQ7 HR7 HB7 hm0
    have hg := Hg.out
    clear Hg
    rcases hg with rfl | rfl | rfl
    · go_quiet (fail)
      go_wp2_with fail
      go_meet
      exact ⟨rfl, nq, rfl⟩
    · go_quiet (fail)
      go_wp2_with fail
      go_meet
      exact ⟨rfl, nq, rfl⟩
    · go_quiet (fail)
      go_wp2_with fail
      go_meet
      exact ⟨rfl, nq, rfl⟩
  case rest =>
  obtain ⟨rfl, kd, rfl⟩ := hcut
  have BP8 := hide (BP7.out.drewN kd)
  have BQ8 := hide (BQ7.out.drewN kd)
  have HR8 := hide (HR7.out.drewN kd)
  have HB8 := hide (below_drewN HB7.out kd)
  have HC8 : Hid (∀ wx, Below (w7.drewN kd).heap.size (w7.drewN kd) wx → ∀ i, i < m7 → wx.cell? ⟨rb, ro + i * 2, none⟩ = some (.int .i64 (Q7 i).1) ∧ wx.cell? ⟨rb, ro + i * 2 + 1, none⟩ = some (.int .i64 (Q7 i).2)) := hide (fun wx hb => HC7.out wx (Below.trans (b := w7.drewN kd) (below_drewN (Below.refl _ _) kd) hb))
  clear BP7 BQ7 HR7 HB7 HC7 HQ0 HQ1
  generalize w7.drewN kd = w8 at *
  go_wp2_with fail
  go_loopw [14] (fun v wr => ∃ i : Nat, v = .int .i64 i ∧ 1 ≤ i ∧ i ≤ m7 ∧ Hid (Below w8.heap.size w8 wr)) (fun v _ => m7 - (intOf v).toNat)
  case atStart => exact ⟨1, rfl, Nat.le_refl _, hm0, hide (Below.refl _ _)⟩
  case round =>
    obtain ⟨wo, rfl⟩ : ∃ wx : World, wx = wr := ⟨_, rfl⟩
    obtain ⟨i, rfl, hi1, him, HBo⟩ := hrel
    clear hm0
    by_cases hlt : i < m7
    · have k1 : decide ((i : Int) < (m7 : Int)) = true := decide_eq_true (by omega)
      have Hlt := hide hlt
      obtain ⟨j, Hj⟩ : ∃ j, Hid (j = i - 1) := ⟨_, rfl⟩
      obtain ⟨a0, a1⟩ := HC8.out wo HBo.out (i - 1) (by omega)
      obtain ⟨b0, b1⟩ := HC8.out wo HBo.out i hlt
      obtain ⟨hne, hax, htu, hcl⟩ := Hpt.out (i - 1) (by omega)
      rw [show i - 1 + 1 = i by omega] at hne hax htu hcl
      rw [← Hj.out] at a0 a1 hne hax htu hcl
      have u1 : (i : Int) - 1 = (j : Int) := by have := Hj.out; omega
      have u2 : IntKind.i64.wrap ((i : Int) - 1) = (j : Int) := by rw [u1]; exact IntWalk.i64_in _ (by omega)
      have u3 : (j : Int) < (m7 : Int) := by have := Hj.out; omega
      have u4 : (i : Int) < (m7 : Int) := by omega
      have u5 : (0 : Int) ≤ (j : Int) := by omega
      have u6 : (0 : Int) ≤ (i : Int) := by omega
      have Hne := hide hne
      have Hax := hide hax
      have Htu := hide htu
      have Hcl := hide hcl
      have HzC : Hid (0 < j → wo.cell? ⟨rb, ro + (j - 1) * 2, none⟩ = some (.int .i64 (Q7 (j - 1)).1)) := hide (fun h => (HC8.out wo HBo.out (j - 1) (by have := Hj.out; omega)).1)
      clear u1 hne hax htu hcl hlt
      obtain ⟨a, Ha⟩ : ∃ z, Hid (z = Q7 j) := ⟨_, rfl⟩
      obtain ⟨d, Hd⟩ : ∃ z, Hid (z = Q7 i) := ⟨_, rfl⟩
      rw [← Ha.out] at a0 a1 Hne Hax Htu Hcl
      rw [← Hd.out] at b0 b1 Hne Hax Htu Hcl
      clear Ha Hd
      obtain ⟨ax, ay⟩ := a
      obtain ⟨bx, bY⟩ := d
      dsimp only at a0 a1 b0 b1 Hax Htu
      have rbl := World.block_lt_of_cell? _ _ a0
      go_upto_region 11 with fail
      go_cut [15, 16] (fun v9 v10 wc => ∃ g1 g2 : Nat, v9 = .pointer (some ⟨g1, 0, none⟩) ∧ v10 = .pointer (some ⟨g2, 0, none⟩) ∧ Blk wc g1 24 (ptc ax ay) ∧ Blk wc g2 24 (ptc bx bY) ∧ Below wo.heap.size wo wc)
      case first =>
        clear HC8 Hpt Hne Hax Htu Hcl HzC HB8 HR8 BP8 BQ8
        refine wp_region_held (S := fun (w' : World) => w'.cell? ⟨rb, ro + j * 2, none⟩ = some (.int .i64 ax) ∧ w'.cell? ⟨rb, ro + j * 2 + 1, none⟩ = some (.int .i64 ay) ∧ w'.cell? ⟨rb, ro + i * 2, none⟩ = some (.int .i64 bx) ∧ w'.cell? ⟨rb, ro + i * 2 + 1, none⟩ = some (.int .i64 bY)) (by kernel_rfl) ?_
        have hHeld : (fun (w' : World) => w'.cell? ⟨rb, ro + j * 2, none⟩ = some (.int .i64 ax) ∧ w'.cell? ⟨rb, ro + j * 2 + 1, none⟩ = some (.int .i64 ay) ∧ w'.cell? ⟨rb, ro + i * 2, none⟩ = some (.int .i64 bx) ∧ w'.cell? ⟨rb, ro + i * 2 + 1, none⟩ = some (.int .i64 bY)) _ := ⟨a0, a1, b0, b1⟩
        refine wpAnyH_take (i := 0) (v := ?vr0q0) rfl (by kernel_rfl) (by kernel_rfl) (by kernel_rfl) (fun _ _ _ h => h) (Or.inl ⟨by rfl, ?hyr0q0⟩) (by assumption) ?_
        case hyr0q0 => (intro w hSw; (try dsimp only at hSw); go_simp; try with_reducible rfl)
        try simp only [Act.put]
        refine wpAnyH_take (i := 1) (v := ?vr0q1) rfl (by kernel_rfl) (by kernel_rfl) (by kernel_rfl) (fun _ _ _ h => h) (Or.inl ⟨by rfl, ?hyr0q1⟩) (by assumption) ?_
        case hyr0q1 => (intro w hSw; (try dsimp only at hSw); go_simp; try with_reducible rfl)
        try simp only [Act.put]
        refine wpAnyH_take (i := 2) (v := ?vr0q2) rfl (by kernel_rfl) (by kernel_rfl) (by kernel_rfl) (fun _ _ _ h => h) (Or.inl ⟨by rfl, ?hyr0q2⟩) (by assumption) ?_
        case hyr0q2 => (intro w hSw; (try dsimp only at hSw); go_simp; try with_reducible rfl)
        try simp only [Act.put]
        refine wpAnyH_take (i := 3) (v := ?vr0q3) rfl (by kernel_rfl) (by kernel_rfl) (by kernel_rfl) (fun _ _ _ h => h) (Or.inl ⟨by rfl, ?hyr0q3⟩) (by assumption) ?_
        case hyr0q3 => (intro w hSw; (try dsimp only at hSw); go_simp; try with_reducible rfl)
        try simp only [Act.put]
        refine wpAnyH_take (i := 4) (v := ?vr0q4) rfl (by kernel_rfl) (by kernel_rfl) (by kernel_rfl) (fun _ _ _ h => h) (Or.inl ⟨by rfl, ?hyr0q4⟩) (by assumption) ?_
        case hyr0q4 => (intro w hSw; (try dsimp only at hSw); go_simp; try with_reducible rfl)
        try simp only [Act.put]
        refine wpAnyH_take (i := 5) (v := ?vr0q5) rfl (by kernel_rfl) (by kernel_rfl) (by kernel_rfl) (fun _ _ _ h => h) (Or.inl ⟨by rfl, ?hyr0q5⟩) (by assumption) ?_
        case hyr0q5 => (intro w hSw; (try dsimp only at hSw); go_simp; try with_reducible rfl)
        try simp only [Act.put]
        refine wpAnyH_take (i := 6) (v := ?vr0q6) rfl (by kernel_rfl) (by kernel_rfl) (by kernel_rfl) (fun _ _ _ h => h) (Or.inl ⟨by rfl, ?hyr0q6⟩) (by assumption) ?_
        case hyr0q6 => (intro w hSw; (try dsimp only at hSw); go_simp; try with_reducible rfl)
        try simp only [Act.put]
        refine wpAnyH_take (i := 7) (v := ?vr0q7) rfl (by kernel_rfl) (by kernel_rfl) (by kernel_rfl) (fun _ _ _ h => h) (Or.inl ⟨by rfl, ?hyr0q7⟩) (by assumption) ?_
        case hyr0q7 => (intro w hSw; (try dsimp only at hSw); go_simp; try with_reducible rfl)
        try simp only [Act.put]
        refine wpAnyH_take (i := 8) (v := ?vr0q8) rfl (by kernel_rfl) (by kernel_rfl) (by kernel_rfl) (fun _ _ _ h => h) (Or.inl ⟨by rfl, ?hyr0q8⟩) (by assumption) ?_
        case hyr0q8 => (intro w hSw; (try dsimp only at hSw); go_simp; try with_reducible rfl)
        try simp only [Act.put]
        refine boxes_run (k := 2) (al := fun i => 9 + i) (st := fun i => 11 + i) (ty := fun _ => 24) (d := fun i => 15 + i) (x := (fun bi : Nat => if bi = 0 then Operand.tmp 89 else Operand.tmp 93)) (V := fun bi => Value.agg ((fun bi : Nat => if bi = 0 then ptc ax ay else ptc bx bY) bi)) (zc := fun _ => ptz) (vc := (fun bi : Nat => if bi = 0 then ptc ax ay else ptc bx bY)) ⟨by kernel_rfl, fun i hi => ?har0, fun i hi => ?hbr0, by kernel_rfl, fun i hi => ?hur0, fun i j hi hj hij => ⟨fun e => hij (Nat.add_left_cancel e), fun e => hij (Nat.add_left_cancel e), fun e => hij (Nat.add_left_cancel e)⟩, fun i j hi hj => (by show 9 + i ≠ 11 + j; omega), fun i hi => ?hdr0, fun i hi a' h => ?hvr0, fun i hi w => alloc_pt w, fun i hi w g h => ?hsr0⟩ (Nat.le_of_ble_eq_true (by kernel_rfl)) rfl ?hSr0 ?her0
        case har0 =>
          match i, hi with
          | 0, _ => exact ⟨_, rfl, rfl, rfl⟩
          | 1, _ => exact ⟨_, rfl, rfl, rfl⟩
        case hbr0 =>
          match i, hi with
          | 0, _ => exact ⟨_, rfl, rfl, rfl, by kernel_rfl⟩
          | 1, _ => exact ⟨_, rfl, rfl, rfl, by kernel_rfl⟩
        case hur0 =>
          match i, hi with
          | 0, _ => exact ⟨rfl, rfl⟩
          | 1, _ => exact ⟨rfl, rfl⟩
        case hdr0 =>
          match i, hi with
          | 0, _ => simp
          | 1, _ => simp
        case hvr0 =>
          match i, hi with
          | 0, _ => (show a'.tmps.getD 89 undef = _; rw [Array.getD_eq_getD_getElem?, h 89 (fun j hj => (by show 89 ≠ 15 + j; omega))]; simp [ptc])
          | 1, _ => (show a'.tmps.getD 93 undef = _; rw [Array.getD_eq_getD_getElem?, h 93 (fun j hj => (by show 93 ≠ 15 + j; omega))]; simp [ptc])
        case hsr0 =>
          match i, hi with
          | 0, _ => exact store_pt w g _ _ h
          | 1, _ => exact store_pt w g _ _ h
        case hSr0 => exact fun w' hb => ⟨(hb.cell (p := ⟨rb, ro + j * 2, none⟩) rbl).trans a0, (hb.cell (p := ⟨rb, ro + j * 2 + 1, none⟩) rbl).trans a1, (hb.cell (p := ⟨rb, ro + i * 2, none⟩) rbl).trans b0, (hb.cell (p := ⟨rb, ro + i * 2 + 1, none⟩) rbl).trans b1⟩
        intro g w' hblk hne' hbel
        have h0 : Blk w' (g 0) 24 (ptc ax ay) := (hblk 0 (by omega)).2
        have h1 : Blk w' (g 1) 24 (ptc bx bY) := (hblk 1 (by omega)).2
        have hbel' : Below wo.heap.size wo w' := ⟨hbel.os, hbel.tape, hbel.output, hbel.size, hbel.block⟩
        simp only [boxed, Act.put, List.setIfInBounds_toArray, Nat.reduceAdd]
        go_wp2_with fail
        go_meet
        exact ⟨g 0, g 1, rfl, rfl, h0, h1, hbel'⟩
      case rest =>
      obtain ⟨g1, g2, rfl, rfl, hg1, hg2, hB⟩ := hcut
      obtain ⟨w9, rfl⟩ : ∃ wx : World, wx = wc := ⟨_, rfl⟩
      have HB9 := hide (HBo.out.trans (hB.mono HBo.out.size))
      have HzC9 : Hid (0 < j → w9.cell? ⟨rb, ro + (j - 1) * 2, none⟩ = some (.int .i64 (Q7 (j - 1)).1)) := hide (fun h => (hB.cell (p := ⟨rb, ro + (j - 1) * 2, none⟩) rbl).trans (HzC.out h))
      have Hg1 := hide hg1
      have Hg2 := hide hg2
      clear HBo hB hg1 hg2 HzC a0 a1 b0 b1 rbl
      go_upto_region 12 with fail
      go_cut [131] (fun v wc => v = .bool false ∧ ∃ k, wc = w9.drewN k)
      case first => as_aux_lemma =>
        have a0 : w9.cell? ⟨g1, 0, none⟩ = some (.int .i64 ax) := Hg1.out.cell 0
        have a1 : w9.cell? ⟨g1, 1, none⟩ = some (.int .i64 ay) := Hg1.out.cell 1
        have b0 : w9.cell? ⟨g2, 0, none⟩ = some (.int .i64 bx) := Hg2.out.cell 0
        have b1 : w9.cell? ⟨g2, 1, none⟩ = some (.int .i64 bY) := Hg2.out.cell 1
        have hne := Hne.out
        have hax := Hax.out
        have htu := Htu.out
        clear HC8 Hpt Hne Hax Htu Hcl HB8 HR8 BP8 BQ8 Hg1 Hg2 HB9 u2 u3 u4 u5
        by_cases hj0 : 0 < j
        · obtain ⟨jj, Hjj⟩ : ∃ z, Hid (z = j - 1) := ⟨_, rfl⟩
          have z0 := HzC9.out hj0
          have htu := htu hj0
          rw [← Hjj.out] at z0 htu
          have g1' : decide ((i : Int) > 1) = true := decide_eq_true (by have := Hj.out; omega)
          have u1 : (i : Int) - 2 = (jj : Int) := by have h1 := Hj.out; have h2 := Hjj.out; omega
          have u2 : IntKind.i64.wrap ((i : Int) - 2) = (jj : Int) := by rw [u1]; exact IntWalk.i64_in _ (by omega)
          have u3 : (jj : Int) < (m7 : Int) := by omega
          have u5 : (0 : Int) ≤ (jj : Int) := by omega
          have u7 : (1 : Int) < (i : Int) := by have := Hj.out; omega
          clear u1 HzC9
          generalize (Q7 jj).1 = zx at *
          by_cases hV : ax = bx
          · have d1 : (ax == bx) = true := beq_iff_eq.2 hV
            have d2 : (ay == bY) = false := beq_eq_false_iff_ne.2 (fun e => hne (by rw [hV, e]))
            have d3 : (ax != bx) = false := by rw [bne, d1]; rfl
            have d4 : (zx == ax) = false := beq_eq_false_iff_ne.2 (fun e => htu.1 e hV)
            clear hV hne hax htu hj0
            go_quiet (fail)
            go_wp2_with fail
            go_meet
            exact ⟨rfl, nq, rfl⟩
          · have d1 : (ax == bx) = false := beq_eq_false_iff_ne.2 hV
            have d2 : (ay == bY) = true := beq_iff_eq.2 (hax.resolve_left hV)
            have d3 : (ax != bx) = true := by rw [bne, d1]; rfl
            have d5 : (ay != bY) = false := by rw [bne, d2]; rfl
            have d4 : (zx == ax) = true := beq_iff_eq.2 (htu.2 hV)
            clear hV hne hax htu hj0
            go_quiet (fail)
            go_wp2_with fail
            go_meet
            exact ⟨rfl, nq, rfl⟩
        · have g1' : decide ((i : Int) > 1) = false := decide_eq_false (by have := Hj.out; omega)
          have u7 : ¬ (1 : Int) < (i : Int) := by have := Hj.out; omega
          clear HzC9 htu hj0
          by_cases hV : ax = bx
          · have d1 : (ax == bx) = true := beq_iff_eq.2 hV
            have d2 : (ay == bY) = false := beq_eq_false_iff_ne.2 (fun e => hne (by rw [hV, e]))
            have d3 : (ax != bx) = false := by rw [bne, d1]; rfl
            clear hV hne hax
            go_quiet (fail)
            go_wp2_with fail
            go_meet
            exact ⟨rfl, nq, rfl⟩
          · have d1 : (ax == bx) = false := beq_eq_false_iff_ne.2 hV
            have d2 : (ay == bY) = true := beq_iff_eq.2 (hax.resolve_left hV)
            have d3 : (ax != bx) = true := by rw [bne, d1]; rfl
            have d5 : (ay != bY) = false := by rw [bne, d2]; rfl
            clear hV hne hax
            go_quiet (fail)
            go_wp2_with fail
            go_meet
            exact ⟨rfl, nq, rfl⟩
      case rest =>
      obtain ⟨rfl, kd, rfl⟩ := hcut
      have HBd := hide (below_drewN HB9.out kd)
      have Hd1 := hide (Hg1.out.drewN kd)
      have Hd2 := hide (Hg2.out.drewN kd)
      clear HB9 Hg1 Hg2 HzC9 Hne Hax Htu u2 u3 u4 u5 u6
      generalize w9.drewN kd = w10 at *
      have hm1 := min2 ax bx
      have hm2 := max2 ax bx
      have hm3 := min2 ay bY
      have hm4 := max2 ay bY
      have HHb : Hid (∀ f : Fr, hitB f (ax, ay) (bx, bY) = (decide (mnI ax bx < f.x1) && decide (mxI ax bx > f.x0) && decide (mnI ay bY < f.y1) && decide (mxI ay bY > f.y0))) := hide fun f => rfl
      generalize mnI ax bx = n1 at *
      generalize mxI ax bx = n2 at *
      generalize mnI ay bY = n3 at *
      generalize mxI ay bY = n4 at *
      have hmg := max2 g7 0
      have hG : (g7 = -1 ∧ mxI g7 0 = 0) ∨ (g7 ≠ -1 ∧ ¬ g7 < 0 ∧ mxI g7 0 = g7) := by
        rcases Hg.out with h | h | h <;> subst h
        · exact .inr ⟨by decide, by decide, rfl⟩
        · exact .inr ⟨by decide, by decide, rfl⟩
        · exact .inl ⟨rfl, rfl⟩
      have hGb : 0 ≤ mxI g7 0 ∧ mxI g7 0 ≤ 100 := by
        rcases Hg.out with h | h | h <;> subst h <;> decide
      generalize mxI g7 0 = G at *
      have HG := hide hG
      clear hG
      go_wp2_with fail
      go_loopw [134] (fun v wr => ∃ k : Nat, v = .int .i64 k ∧ k ≤ m2 ∧ Hid (Below w10.heap.size w10 wr)) (fun v _ => m2 - (intOf v).toNat)
      case atStart => exact ⟨0, rfl, Nat.zero_le _, hide (Below.refl _ _)⟩
      case round =>
        obtain ⟨wi, rfl⟩ : ∃ wx : World, wx = wr := ⟨_, rfl⟩
        obtain ⟨k, rfl, hk, HBk⟩ := hrel
        by_cases hlk : k < m2
        · have k2 : decide ((k : Int) < (m2 : Int)) = true := decide_eq_true (by omega)
          have Hlk := hide hlk
          have k3 : (k : Int) < (m2 : Int) := by omega
          have k4 : (0 : Int) ≤ (k : Int) := by omega
          have k5 : (k : Int) ≤ 8 := by omega
          have HB8i := hide (HBd.out.trans (HBk.out.mono HBd.out.size))
          obtain ⟨bf, of, rfl, hc⟩ := (HR8.out.below HB8i.out).at_ hlk
          have e0 := hc 0 (by omega)
          have e1 := hc 1 (by omega)
          have e2 := hc 2 (by omega)
          have e3 := hc 3 (by omega)
          change wi.cell? ⟨bf, of + k * 4 + 0, none⟩ = some (.int .i64 (mkF (fs k)).x0) at e0
          change wi.cell? ⟨bf, of + k * 4 + 1, none⟩ = some (.int .i64 (mkF (fs k)).y0) at e1
          change wi.cell? ⟨bf, of + k * 4 + 2, none⟩ = some (.int .i64 (mkF (fs k)).x1) at e2
          change wi.cell? ⟨bf, of + k * 4 + 3, none⟩ = some (.int .i64 (mkF (fs k)).y1) at e3
          rw [Nat.add_zero] at e0
          have hok := mkF_ok (fs k)
          have HclK : Hid (g7 ≠ -1 → insB (widF (mkF (fs k)) g7) (PX, PY) = false → insB (widF (mkF (fs k)) g7) (QX, QY) = false → (widF (mkF (fs k)) g7).x0 ≠ (widF (mkF (fs k)) g7).x1 → (widF (mkF (fs k)) g7).y0 ≠ (widF (mkF (fs k)) g7).y1 → hitB (widF (mkF (fs k)) g7) (ax, ay) (bx, bY) = false) := hide (fun h => Hcl.out h k hlk)
          obtain ⟨f, Hf⟩ : ∃ f, Hid (f = mkF (fs k)) := ⟨_, rfl⟩
          rw [← Hf.out] at e0 e1 e2 e3 hok HclK
          unfold okF okR at hok
          obtain ⟨v, Hv⟩ : ∃ v, Hid (v = widF f G) := ⟨_, rfl⟩
          have x1 : IntKind.i64.wrap (f.x0 - G) = v.x0 := by rw [Hv.out]; exact IntWalk.i64_in _ (by omega)
          have x2 : IntKind.i64.wrap (f.y0 - G) = v.y0 := by rw [Hv.out]; exact IntWalk.i64_in _ (by omega)
          have x3 : IntKind.i64.wrap (f.x1 + G) = v.x1 := by rw [Hv.out]; exact IntWalk.i64_in _ (by omega)
          have x4 : IntKind.i64.wrap (f.y1 + G) = v.y1 := by rw [Hv.out]; exact IntWalk.i64_in _ (by omega)
          have HIn := hide (fun wx => And.intro (inside_ok v (PX, PY) wx) (inside_ok v (QX, QY) wx))
          unfold frV ptV at HIn
          dsimp only at HIn
          have HST : Hid (((decide (g7 < 0) || insB v (PX, PY) || insB v (QX, QY) || (v.x0 == v.x1) || (v.y0 == v.y1)) = false) → (decide (n1 < v.x1) && decide (n2 > v.x0) && decide (n3 < v.y1) && decide (n4 > v.y0)) = false) := hide (fun h => by
            simp only [Bool.or_eq_false_iff, decide_eq_false_iff_not, beq_eq_false_iff_ne] at h
            obtain ⟨⟨⟨⟨h1, h2⟩, h3⟩, h4⟩, h5⟩ := h
            rcases HG.out with ⟨h6, _⟩ | ⟨h6, _, h7⟩
            · omega
            · subst h7
              have h8 := Hv.out
              subst h8
              have h9 := HclK.out h6 h2 h3 h4 h5
              rw [HHb.out] at h9
              exact h9)
          generalize insB v (PX, PY) = i1 at *
          generalize insB v (QX, QY) = i2 at *
          have HF2 := hide (Blk.new wi 34 #[.int .i64 f.x0, .int .i64 f.y0, .int .i64 f.x1, .int .i64 f.y1])
          have HB2 := hide ((Below.refl wi.heap.size wi).alloc (Nat.le_refl _) (.cells #[.int .i64 f.x0, .int .i64 f.y0, .int .i64 f.x1, .int .i64 f.y1] 34))
          clear hc hok hlk HclK HB8i
          obtain ⟨gf, Hgf⟩ : ∃ z, Hid (z = wi.heap.size) := ⟨_, rfl⟩
          go_upto_region 17 with fail
          rw [← Hgf.out] at HF2
          rw [← Hgf.out]
          clear e0 e1 e2 e3
          generalize wi.alloc (.cells #[.int .i64 f.x0, .int .i64 f.y0, .int .i64 f.x1, .int .i64 f.y1] 34) = w11 at *
          have y0 : w11.cell? ⟨gf, 0, none⟩ = some (.int .i64 f.x0) := HF2.out.cell 0
          have y1 : w11.cell? ⟨gf, 1, none⟩ = some (.int .i64 f.y0) := HF2.out.cell 1
          have y2 : w11.cell? ⟨gf, 2, none⟩ = some (.int .i64 f.x1) := HF2.out.cell 2
          have y3 : w11.cell? ⟨gf, 3, none⟩ = some (.int .i64 f.y1) := HF2.out.cell 3
          have HV3 := hide (Blk.new w11 34 #[.int .i64 v.x0, .int .i64 v.y0, .int .i64 v.x1, .int .i64 v.y1])
          have HB3 := hide (HB2.out.alloc HB2.out.size (.cells #[.int .i64 v.x0, .int .i64 v.y0, .int .i64 v.x1, .int .i64 v.y1] 34))
          obtain ⟨gv, Hgv⟩ : ∃ z, Hid (z = w11.heap.size) := ⟨_, rfl⟩
          go_upto_region 19 with fail
          rw [← Hgv.out] at HV3
          rw [← Hgv.out]
          clear y0 y1 y2 y3 x1 x2 x3 x4 hmg HF2 HB2
          generalize w11.alloc (.cells #[.int .i64 v.x0, .int .i64 v.y0, .int .i64 v.x1, .int .i64 v.y1] 34) = w12 at *
          have HBw := hide (HBk.out.trans (HB3.out.mono HBk.out.size))
          have HBz := hide (HBd.out.trans (HBw.out.mono HBd.out.size))
          have bpl := BP8.out.lt
          have bql := BQ8.out.lt
          have BPi := hide (BP8.out.below HBz.out bpl)
          have BQi := hide (BQ8.out.below HBz.out bql)
          have bgl := HV3.out.lt
          clear HBz bpl bql
          go_cut [182] (fun x wc => x = .bool (decide (g7 < 0) || i1 || i2 || (v.x0 == v.x1) || (v.y0 == v.y1)) ∧ Hid (Below w12.heap.size w12 wc))
          case first => as_aux_lemma =>
            clear HST hm1 hm2 hm3 hm4 HC8 Hpt Hcl HHb HB8 HR8 BP8 BQ8 HBd HBk HBw Hd1 Hd2 HG HB3
            have v0 : w12.cell? ⟨gv, 0, none⟩ = some (.int .i64 v.x0) := HV3.out.cell 0
            have v1 : w12.cell? ⟨gv, 1, none⟩ = some (.int .i64 v.y0) := HV3.out.cell 1
            have v2 : w12.cell? ⟨gv, 2, none⟩ = some (.int .i64 v.x1) := HV3.out.cell 2
            have v3 : w12.cell? ⟨gv, 3, none⟩ = some (.int .i64 v.y1) := HV3.out.cell 3
            have p0 : w12.cell? ⟨M, 0, none⟩ = some (.int .i64 PX) := BPi.out.cell 0
            have p1 : w12.cell? ⟨M, 1, none⟩ = some (.int .i64 PY) := BPi.out.cell 1
            cases hgn : decide (g7 < 0) with
            | true =>
              go_wp2_with fail
              go_meet
              exact ⟨by simp [hgn], hide (Below.refl _ _)⟩
            | false =>
              go_wp2_with fail
              refine ((HIn.out _).1).mono ?_
              rintro e13 w13 ⟨rfl, hb13⟩
              have Hb13 := hide hb13
              have HV13 := hide (HV3.out.below hb13 bgl)
              have BQ13 := hide (BQi.out.below hb13 BQi.out.lt)
              clear hb13 v0 v1 v2 v3 p0 p1 BPi HV3
              have v0 : w13.cell? ⟨gv, 0, none⟩ = some (.int .i64 v.x0) := HV13.out.cell 0
              have v1 : w13.cell? ⟨gv, 1, none⟩ = some (.int .i64 v.y0) := HV13.out.cell 1
              have v2 : w13.cell? ⟨gv, 2, none⟩ = some (.int .i64 v.x1) := HV13.out.cell 2
              have v3 : w13.cell? ⟨gv, 3, none⟩ = some (.int .i64 v.y1) := HV13.out.cell 3
              have q0 : w13.cell? ⟨M + 1, 0, none⟩ = some (.int .i64 QX) := BQ13.out.cell 0
              have q1 : w13.cell? ⟨M + 1, 1, none⟩ = some (.int .i64 QY) := BQ13.out.cell 1
              cases i1 with
              | true =>
                go_wp2_with fail
                go_meet
                exact ⟨by simp, Hb13⟩
              | false =>
                go_wp2_with fail
                refine ((HIn.out _).2).mono ?_
                rintro e14 w14 ⟨rfl, hb14⟩
                have Hb14 := hide (Hb13.out.trans (hb14.mono Hb13.out.size))
                have HV14 := hide (HV13.out.below hb14 HV13.out.lt)
                clear hb14 v0 v1 v2 v3 q0 q1 BQ13 HV13 Hb13 BQi
                have v0 : w14.cell? ⟨gv, 0, none⟩ = some (.int .i64 v.x0) := HV14.out.cell 0
                have v1 : w14.cell? ⟨gv, 1, none⟩ = some (.int .i64 v.y0) := HV14.out.cell 1
                have v2 : w14.cell? ⟨gv, 2, none⟩ = some (.int .i64 v.x1) := HV14.out.cell 2
                have v3 : w14.cell? ⟨gv, 3, none⟩ = some (.int .i64 v.y1) := HV14.out.cell 3
                cases i2 with
                | true =>
                  go_wp2_with fail
                  go_meet
                  exact ⟨by simp, Hb14⟩
                | false =>
                  cases hx : (v.x0 == v.x1) with
                  | true =>
                    go_wp2_with fail
                    go_meet
                    exact ⟨by simp [hx], Hb14⟩
                  | false =>
                    cases hy : (v.y0 == v.y1) with
                    | true =>
                      go_wp2_with fail
                      go_meet
                      exact ⟨by simp [hx, hy], Hb14⟩
                    | false =>
                      go_wp2_with fail
                      go_meet
                      exact ⟨by simp [hgn, hx, hy], Hb14⟩
          case rest =>
          obtain ⟨rfl, HBc⟩ := hcut
          obtain ⟨w15, rfl⟩ : ∃ wx : World, wx = wc := ⟨_, rfl⟩
          have HV15 := hide (HV3.out.below HBc.out bgl)
          have HB15 := hide (HBw.out.trans (HBc.out.mono HBw.out.size))
          have Hd15 := hide (Hd1.out.below HB15.out Hd1.out.lt)
          have He15 := hide (Hd2.out.below HB15.out Hd2.out.lt)
          clear HV3 HBw HBc bgl HBk HB3 BPi BQi HIn
          generalize (decide (g7 < 0) || i1 || i2 || (v.x0 == v.x1) || (v.y0 == v.y1)) = stop at *
          cases stop with
          | true =>
            go_wp2_with fail
            go_roundw
            case rel => exact ⟨k + 1, by go_num, Hlk.out, HB15⟩
            case measure => (simp [intOf]; omega)
          | false =>
            have hst := HST.out rfl
            clear HST
            go_upto_region 20 with fail
            go_cut [220] (fun x wc => x = .bool false ∧ wc = w15)
            case first => as_aux_lemma =>
              have v0 : w15.cell? ⟨gv, 0, none⟩ = some (.int .i64 v.x0) := HV15.out.cell 0
              have v1 : w15.cell? ⟨gv, 1, none⟩ = some (.int .i64 v.y0) := HV15.out.cell 1
              have v2 : w15.cell? ⟨gv, 2, none⟩ = some (.int .i64 v.x1) := HV15.out.cell 2
              have v3 : w15.cell? ⟨gv, 3, none⟩ = some (.int .i64 v.y1) := HV15.out.cell 3
              have a0 : w15.cell? ⟨g1, 0, none⟩ = some (.int .i64 ax) := Hd15.out.cell 0
              have a1 : w15.cell? ⟨g1, 1, none⟩ = some (.int .i64 ay) := Hd15.out.cell 1
              have b0 : w15.cell? ⟨g2, 0, none⟩ = some (.int .i64 bx) := He15.out.cell 0
              have b1 : w15.cell? ⟨g2, 1, none⟩ = some (.int .i64 bY) := He15.out.cell 1
              clear HC8 Hpt Hcl HHb HB8 HR8 BP8 BQ8 HBd Hd1 Hd2 HG HB15 Hd15 He15 HV15
              cases h1 : decide (n1 < v.x1) with
              | false =>
                clear hst
                go_wp2_with fail
                go_meet
                exact ⟨rfl, rfl⟩
              | true =>
                cases h2 : decide (n2 > v.x0) with
                | false =>
                  clear hst
                  go_wp2_with fail
                  go_meet
                  exact ⟨rfl, rfl⟩
                | true =>
                  cases h3 : decide (n3 < v.y1) with
                  | false =>
                    clear hst
                    go_wp2_with fail
                    go_meet
                    exact ⟨rfl, rfl⟩
                  | true =>
                    cases h4 : decide (n4 > v.y0) with
                    | false =>
                      clear hst
                      go_wp2_with fail
                      go_meet
                      exact ⟨rfl, rfl⟩
                    | true =>
                      rw [h1, h2, h3, h4] at hst
                      cases hst
            case rest =>
              obtain ⟨rfl, rfl⟩ := hcut
              clear hst
              go_wp2_with fail
              go_roundw
              case rel => exact ⟨k + 1, by go_num, Hlk.out, HB15⟩
              case measure => (simp [intOf]; omega)
        · obtain rfl : k = m2 := by omega
          have k2 : decide ((k : Int) < (k : Int)) = false := decide_eq_false (by omega)
          have HBe := hide (HBd.out.trans (HBk.out.mono HBd.out.size))
          clear hm1 hm2 hm3 hm4 hmg
          go_wp2_with fail
          go_roundw
          case rel => exact ⟨i + 1, by go_num, by omega, Hlt.out, HBe⟩
          case measure => (simp [intOf]; have := Hlt.out; omega)
    · obtain rfl : i = m7 := by omega
      have k1 : decide ((i : Int) < (i : Int)) = false := decide_eq_false (by omega)
      have HBe := hide (HB8.out.trans (HBo.out.mono (Nat.le_trans (Nat.le_of_eq HM.out) HB8.out.size)))
      go_wp2_with fail
      go_ret
      exact ⟨rfl, HBe.out⟩

theorem walked : Walked Try.checked.prog 3 Try.f3 := by
  intro H enc W args ds ps hval hA
  rw [Try.params3] at hA hval
  obtain ⟨v0, ll0, d0, m0, p0, q0, e0, _, h0, kk0⟩ := Frm.trodAll_cons hA
  obtain ⟨v1, ll1, d1, m1, p1, q1, rfl, _, h1, kk1⟩ := Frm.trodAll_cons kk0
  obtain ⟨v2, ll2, d2, m2, p2, q2, rfl, _, h2, kk2⟩ := Frm.trodAll_cons kk1
  obtain ⟨v3, ll3, d3, m3, p3, q3, rfl, _, h3, kk3⟩ := Frm.trodAll_cons kk2
  obtain ⟨v4, ll4, d4, m4, p4, q4, rfl, _, h4, kk4⟩ := Frm.trodAll_cons kk3
  obtain rfl := Frm.trodAll_nil kk4
  obtain rfl : args = #[v0, v1, v2, v3, v4] := by cases args; simp_all
  obtain ⟨a0, l0, k0, rfl⟩ := okWide_slice Try.underlying22 (hval 0 _ _ rfl rfl)
  obtain ⟨fuel, h0⟩ := h0
  obtain ⟨A, n, c, fs, hs, hn, hr, hf⟩ := frames_trod (v := .slice a0 l0 k0) h0
  rw [hs]
  obtain ⟨p, rfl, hp⟩ := point_trod (hval 1 _ _ rfl rfl) h1
  obtain ⟨q, rfl, hq⟩ := point_trod (hval 2 _ _ rfl rfl) h2
  obtain ⟨x, rfl, _, _, wx⟩ := open_int Try.underlying3 (hval 3 _ _ rfl rfl) h3
  obtain ⟨y, rfl, _, _, wy⟩ := open_int Try.underlying3 (hval 4 _ _ rfl rfl) h4
  exact walk A n c fs p q x y W hn hr hf hp hq wx wy

theorem lifted (os : Os) (started : os.Started) (H : Type) (enc : TypeId × Value → H) :
    ReturnsInHanded {} Try.checked os 3 .any (Rows.routeKeepsClearSpec.pre6 enc Try.prog Try.f3 Rows.routeKeepsClearRow.domain false) (Rows.routeKeepsClearSpec.post enc Try.prog Try.f3 false true false false) :=
  law_lift (C := Try.checked) (tb := 4) (by kernel_rfl) started (by kernel_rfl) Try.func3 rfl
    (fun ds h => match ds, h with | [_, _, _, _, _], _ => rfl) rfl Try.underlying4 (by kernel_rfl) (by kernel_rfl)
    (ChangeSpec.witness6 (enc := enc) (C := Try.checked) false ⟨#[], #[.slice none 0 0, .agg #[.int .i64 0, .int .i64 0], .agg #[.int .i64 0, .int .i64 0], .int .i64 0, .int .i64 0], []⟩ 8 (by kernel_rfl) (by kernel_rfl) (by kernel_rfl) (by kernel_rfl))
    walked

/-- THE STATEMENT -/
theorem proved : Rows.RouteKeepsClearSaid :=
  OpenClaim.holds_of_wide 3 Try.f3 rfl rfl rfl rfl rfl rfl rfl ⟨rfl, rfl, rfl, rfl, rfl⟩ rfl rfl rfl rfl rfl (by kernel_rfl) Try.func3 (by kernel_rfl)
    (of_decide_eq_true (by kernel_rfl)) (by unfold Func.isWrapper; first | (rw [if_pos (by decide +kernel)]; kernel_rfl) | (rw [if_neg (by decide +kernel)]; exact ⟨rfl, rfl⟩))
    (fun os started H enc _ => lifted os started H enc)
#print axioms proved
end Go.Proofs.Ytegmokdhfmgdgaa.RouteKeepsClearDone
