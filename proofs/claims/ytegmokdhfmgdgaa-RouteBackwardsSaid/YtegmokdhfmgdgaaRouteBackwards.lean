/- PROVED HERE: whatever the rectangles, the points and the directions, chancerykeep3.RouteBackwards returns true. No condition beside those of the given statement. -/
import Derived.Test.YtegmokdhfmgdgaaRtRow
import Derived.Test.YtegmokdhfmgdgaaRtArgs
import Derived.Test.YtegmokdhfmgdgaaRtWays
import Derived.Test.YtegmokdhfmgdgaaRtFrames
import Derived.Test.YtegmokdhfmgdgaaRtTurn
import Derived.BigQuiet
import Derived.Test.YtegmokdhfmgdgaaChecked
import Derived.Test.YtegmokdhfmgdgaaRows
namespace Go.Proofs.Ytegmokdhfmgdgaa.RouteBackwardsDone
open Go.RowKit Go.Frm Go.ChangeShapes Go.WideShapes Go.ChangeAt Go.Frm.Rt Rt

theorem mkF_ok (f : Fr) : okF (mkF f) := by
  have d1 := Wi.wi_bd f.x0 (low := -900) (high := 900) (by decide)
  have d2 := Wi.wi_bd f.y0 (low := -900) (high := 900) (by decide)
  have d3 := Wi.wi_bd f.x1 (low := 0) (high := 500) (by decide)
  have d4 := Wi.wi_bd f.y1 (low := 0) (high := 500) (by decide)
  unfold okF okR mkF
  dsimp only
  omega
set_option maxRecDepth 100000 in
set_option maxHeartbeats 40000000 in
theorem walk (A : Option Addr) (n c : Nat) (fs : Nat → Fr) (p q : Pt) (first last : Int) (w : World) (hn : n ≤ 9223372036854775807) (hr : RdF w A n 4 (frF fs)) (hf : ∀ i, i < n → wfI (fs i).x0 ∧ wfI (fs i).y0 ∧ wfI (fs i).x1 ∧ wfI (fs i).y1) (hp : wfI p.1 ∧ wfI p.2) (hq : wfI q.1 ∧ wfI q.2) (hfi : wfI first) (hla : wfI last) :
    Calls Try.prog 4 #[.slice A n c, ptV p, ptV q, .int .i64 first, .int .i64 last] w fun e w' => e = .returned (.bool true) ∧ Below w.heap.size w w' := by
  obtain ⟨M, hM⟩ : ∃ M, M = w.heap.size := ⟨_, rfl⟩
  have HM := hide hM
  rw [← hM]
  have HW := hide (fun wx => ways_ok wx)
  have HFr := hide (fun wx (h : Below M w wx) => frames_ok (w := wx) (c := c) (hr.below (by rw [← hM]; exact h)) hn hf)
  have HP := hide (fun wx => point_ok p hp.1 hp.2 wx)
  have HQ := hide (fun wx => point_ok q hq.1 hq.2 wx)
  have HI1 := hide (fun wx => Wi.within_any first (-1) 3 wx hfi (by decide) (by decide) (by decide))
  have HI2 := hide (fun wx => Wi.within_any last (-1) 3 wx hla (by decide) (by decide) (by decide))
  have hb1 := Wi.wi_bd first (low := -1) (high := 3) (by decide)
  have hb2 := Wi.wi_bd last (low := -1) (high := 3) (by decide)
  clear hfi hla
  obtain ⟨px, py⟩ := p
  obtain ⟨qx, qy⟩ := q
  unfold ptV at HP HQ ⊢
  dsimp only at HP HQ ⊢
  have e1 := Wi.wi_bd px (low := -1200) (high := 1200) (by decide)
  have e2 := Wi.wi_bd py (low := -1200) (high := 1200) (by decide)
  have e3 := Wi.wi_bd qx (low := -1200) (high := 1200) (by decide)
  have e4 := Wi.wi_bd qy (low := -1200) (high := 1200) (by decide)
  have HE : Hid ((okR (Wi.wi px (-1200) 1200) ∧ okR (Wi.wi py (-1200) 1200)) ∧ okR (Wi.wi qx (-1200) 1200) ∧ okR (Wi.wi qy (-1200) 1200)) := hide (by unfold okR; omega)
  have HE2 : Hid ((-1200 ≤ Wi.wi px (-1200) 1200 ∧ Wi.wi px (-1200) 1200 ≤ 1200) ∧ -1200 ≤ Wi.wi qx (-1200) 1200 ∧ Wi.wi qx (-1200) 1200 ≤ 1200) := hide ⟨e1, e3⟩
  clear e1 e2 e3 e4 hr hf hp hq hM hn
  generalize Wi.wi px (-1200) 1200 = PX at *
  generalize Wi.wi py (-1200) 1200 = PY at *
  generalize Wi.wi qx (-1200) 1200 = QX at *
  generalize Wi.wi qy (-1200) 1200 = QY at *
  generalize Wi.wi first (-1) 3 = F1 at *
  generalize Wi.wi last (-1) 3 = L1 at *
  have bp0 := (Blk.new w 24 #[.int .i64 px, .int .i64 py]).alloc (.cells #[.int .i64 qx, .int .i64 qy] 24)
  have bq0 := Blk.new (w.alloc (.cells #[.int .i64 px, .int .i64 py] 24)) 24 #[.int .i64 qx, .int .i64 qy]
  have hbe := ((Below.refl w.heap.size w).alloc (Nat.le_refl _) (.cells #[.int .i64 px, .int .i64 py] 24)).alloc (by simp) (.cells #[.int .i64 qx, .int .i64 qy] 24)
  rw [hsz_alloc] at bq0
  rw [← HM.out] at bp0 bq0 hbe
  have BP0 := hide bp0
  have BQ0 := hide bq0
  have HB0 := hide hbe
  clear bp0 bq0 hbe
  go_enter Try.func4, Try.ntmps4
  go_upto_region 1 with fail
  rw [← HM.out]
  generalize (w.alloc (.cells #[.int .i64 px, .int .i64 py] 24)).alloc (.cells #[.int .i64 qx, .int .i64 qy] 24) = w0 at *
  go_upto_region 3 with (go_at_call 6; refine (HW.out w0).mono ?_; rintro e w1 ⟨rfl, hb1'⟩)
  have BP1 := hide (BP0.out.below hb1' BP0.out.lt)
  have BQ1 := hide (BQ0.out.below hb1' BQ0.out.lt)
  have HB1 := hide (HB0.out.trans (hb1'.mono (Nat.le_trans (Nat.le_of_eq HM.out) HB0.out.size)))
  clear hb1' BP0 BQ0 HB0 HW
  have p0 : w1.cell? ⟨M, 0, none⟩ = some (.int .i64 px) := BP1.out.cell 0
  have p1 : w1.cell? ⟨M, 1, none⟩ = some (.int .i64 py) := BP1.out.cell 1
  have q0 : w1.cell? ⟨M + 1, 0, none⟩ = some (.int .i64 qx) := BQ1.out.cell 0
  have q1 : w1.cell? ⟨M + 1, 1, none⟩ = some (.int .i64 qy) := BQ1.out.cell 1
  have hsz : M + 1 < w1.heap.size := BQ1.out.lt
  have HFr1 := hide (HFr.out w1.drew (below_drewN HB1.out 1))
  clear HFr
  refine wp_region_listed (S := fun l w' => (l.getD 7 true = false → w'.cell? ⟨M, 0, none⟩ = some (.int .i64 px)) ∧ (l.getD 7 true = false → w'.cell? ⟨M, 1, none⟩ = some (.int .i64 py)) ∧ (l.getD 8 true = false → w'.cell? ⟨M + 1, 0, none⟩ = some (.int .i64 qx)) ∧ (l.getD 8 true = false → w'.cell? ⟨M + 1, 1, none⟩ = some (.int .i64 qy))) (by kernel_rfl) ?hSr (fun hHeld => ?_)
  case hSr => exact ⟨fun _ => p0, fun _ => p1, fun _ => q0, fun _ => q1⟩
  refine wpAnyL_take (i := 0) (v := ?vr0) rfl (by kernel_rfl) (by kernel_rfl) (by kernel_rfl) (by kernel_rfl) (fun _ _ _ h => h) ?hsr0 (Or.inl ⟨by rfl, ?hyr0⟩) (by assumption) (fun hHeld => ?_)
  case hsr0 => (intro l w; (try dsimp only); simp only [Go.getD_set_ne true (show (0 : Nat) ≠ 7 by decide), Go.getD_set_ne true (show (0 : Nat) ≠ 8 by decide)])
  case hyr0 => (intro w hSw; obtain ⟨l, hl, hc, hSw⟩ := hSw; (try dsimp only at hSw); obtain ⟨c0, c1, c2, c3⟩ := hSw; clear hc hl; go_simp; try with_reducible rfl)
  try simp only [Act.put, List.getElem_toArray, List.getElem_cons_zero, List.getElem_cons_succ, List.setIfInBounds_toArray, List.set_cons_zero, List.set_cons_succ]
  refine wpAnyL_take (i := 2) (v := ?vr2) rfl (by kernel_rfl) (by kernel_rfl) (by kernel_rfl) (by kernel_rfl) (fun _ _ _ h => h) ?hsr2 (Or.inl ⟨by rfl, ?hyr2⟩) (by assumption) (fun hHeld => ?_)
  case hsr2 => (intro l w; (try dsimp only); simp only [Go.getD_set_ne true (show (2 : Nat) ≠ 7 by decide), Go.getD_set_ne true (show (2 : Nat) ≠ 8 by decide)])
  case hyr2 => (intro w hSw; obtain ⟨l, hl, hc, hSw⟩ := hSw; (try dsimp only at hSw); obtain ⟨c0, c1, c2, c3⟩ := hSw; replace c0 := c0 (hc.waits 24 (by decide +kernel) hl); replace c1 := c1 (hc.waits 24 (by decide +kernel) hl); clear hc hl; go_simp; try with_reducible rfl)
  try simp only [Act.put, List.getElem_toArray, List.getElem_cons_zero, List.getElem_cons_succ, List.setIfInBounds_toArray, List.set_cons_zero, List.set_cons_succ]
  refine wpAnyL_take (i := 4) (v := ?vr4) rfl (by kernel_rfl) (by kernel_rfl) (by kernel_rfl) (by kernel_rfl) (fun _ _ _ h => h) ?hsr4 (Or.inl ⟨by rfl, ?hyr4⟩) (by assumption) (fun hHeld => ?_)
  case hsr4 => (intro l w; (try dsimp only); simp only [Go.getD_set_ne true (show (4 : Nat) ≠ 7 by decide), Go.getD_set_ne true (show (4 : Nat) ≠ 8 by decide)])
  case hyr4 => (intro w hSw; obtain ⟨l, hl, hc, hSw⟩ := hSw; (try dsimp only at hSw); obtain ⟨c0, c1, c2, c3⟩ := hSw; replace c2 := c2 (hc.waits 24 (by decide +kernel) hl); replace c3 := c3 (hc.waits 24 (by decide +kernel) hl); clear hc hl; go_simp; try with_reducible rfl)
  try simp only [Act.put, List.getElem_toArray, List.getElem_cons_zero, List.getElem_cons_succ, List.setIfInBounds_toArray, List.set_cons_zero, List.set_cons_succ]
  refine wpAnyL_ready (rs := [1]) (by kernel_rfl) (by simp) (AllReadyL.cons rfl (fun K hK => ?_) AllReadyL.nil)
  go_simp
  go_at_call 7
  refine HFr1.out.mono ?_
  rintro e w2 ⟨A2, m2, c2, rfl, hm8, hmn, hown2, hb2', hmn2⟩
  have HB2 := hide ((below_drewN HB1.out 1).trans (hb2'.mono (show M ≤ w1.drew.heap.size from (Nat.le_trans (Nat.le_of_eq HM.out) HB1.out.size))))
  have hs2 : w1.heap.size ≤ w2.heap.size := hb2'.size
  have BP2 := hide (Blk.below (w := w1.drew) BP1.out hb2' BP1.out.lt)
  have BQ2 := hide (Blk.below (w := w1.drew) BQ1.out hb2' BQ1.out.lt)
  have HO2 := hide (ownsRow_less hown2 (b' := M + 2) (show M + 2 ≤ w1.drew.heap.size from hsz))
  clear hb2' hown2 BP1 BQ1 HB1 HFr1 p0 p1 q0 q1
  go_wp2_with fail
  refine hK.out _ _ ?hkr1 (fun hHeld => ?_)
  case hkr1 => exact ⟨fun _ => BP2.out.cell 0, fun _ => BP2.out.cell 1, fun _ => BQ2.out.cell 0, fun _ => BQ2.out.cell 1⟩
  clear hK K
  try simp only [Act.put, List.getElem_toArray, List.getElem_cons_zero, List.getElem_cons_succ, List.setIfInBounds_toArray, List.set_cons_zero, List.set_cons_succ]
  refine wpAnyL_ready (rs := [3]) (by kernel_rfl) (by simp) (AllReadyL.cons rfl (fun K hK => ?_) AllReadyL.nil)
  go_simp
  go_at_call 8
  refine (HP.out w2).mono ?_
  rintro e w3 ⟨rfl, hbx⟩
  have HB3 := hide (HB2.out.trans (hbx.mono (Nat.le_trans (Nat.le_of_eq HM.out) HB2.out.size)))
  have hs3 : w1.heap.size ≤ w3.heap.size := Nat.le_trans hs2 hbx.size
  have BP3 := hide (BP2.out.below hbx BP2.out.lt)
  have BQ3 := hide (BQ2.out.below hbx BQ2.out.lt)
  have HO3 := hide (own_below HO2.out hbx)
  clear hbx HB2 BP2 BQ2 HO2 hs2 HP
  go_wp2_with fail
  refine hK.out _ _ ?hkr3 (fun hHeld => ?_)
  case hkr3 => exact ⟨fun _ => BP3.out.cell 0, fun _ => BP3.out.cell 1, fun _ => BQ3.out.cell 0, fun _ => BQ3.out.cell 1⟩
  clear hK K
  try simp only [Act.put, List.getElem_toArray, List.getElem_cons_zero, List.getElem_cons_succ, List.setIfInBounds_toArray, List.set_cons_zero, List.set_cons_succ]
  refine wpAnyL_ready (rs := [5]) (by kernel_rfl) (by simp) (AllReadyL.cons rfl (fun K hK => ?_) AllReadyL.nil)
  go_simp
  go_at_call 8
  refine (HQ.out w3).mono ?_
  rintro e w4 ⟨rfl, hbx⟩
  have HB4 := hide (HB3.out.trans (hbx.mono (Nat.le_trans (Nat.le_of_eq HM.out) HB3.out.size)))
  have hs4 : w1.heap.size ≤ w4.heap.size := Nat.le_trans hs3 hbx.size
  have BP4 := hide (BP3.out.below hbx BP3.out.lt)
  have BQ4 := hide (BQ3.out.below hbx BQ3.out.lt)
  have HO4 := hide (own_below HO3.out hbx)
  clear hbx HB3 BP3 BQ3 HO3 hs3 HQ
  go_wp2_with fail
  refine hK.out _ _ ?hkr5 (fun hHeld => ?_)
  case hkr5 => exact ⟨fun _ => BP4.out.cell 0, fun _ => BP4.out.cell 1, fun _ => BQ4.out.cell 0, fun _ => BQ4.out.cell 1⟩
  clear hK K
  try simp only [Act.put, List.getElem_toArray, List.getElem_cons_zero, List.getElem_cons_succ, List.setIfInBounds_toArray, List.set_cons_zero, List.set_cons_succ]
  refine wpAnyL_take (i := 6) (v := ?vr6) rfl (by kernel_rfl) (by kernel_rfl) (by kernel_rfl) (by kernel_rfl) (fun _ _ _ h => h) ?hsr6 (Or.inl ⟨by rfl, ?hyr6⟩) (by assumption) (fun hHeld => ?_)
  case hsr6 => (intro l w; (try dsimp only); simp only [Go.getD_set_ne true (show (6 : Nat) ≠ 7 by decide), Go.getD_set_ne true (show (6 : Nat) ≠ 8 by decide)])
  case hyr6 => (intro w hSw; obtain ⟨l, hl, hc, hSw⟩ := hSw; (try dsimp only at hSw); obtain ⟨c0, c1, c2, c3⟩ := hSw; clear hc hl; go_simp; try with_reducible rfl)
  try simp only [Act.put, List.getElem_toArray, List.getElem_cons_zero, List.getElem_cons_succ, List.setIfInBounds_toArray, List.set_cons_zero, List.set_cons_succ]
  have p0 : w4.cell? ⟨M, 0, none⟩ = some (.int .i64 px) := BP4.out.cell 0
  have p1 : w4.cell? ⟨M, 1, none⟩ = some (.int .i64 py) := BP4.out.cell 1
  have fp0 := BP4.out.frozen 0
  have fp1 := BP4.out.frozen 1
  refine wpAnyL_ready (rs := [7]) (by kernel_rfl) (by simp) (AllReadyL.cons rfl (fun K hK => ?_) AllReadyL.nil)
  go_simp
  refine hK.out _ _ ?hkr7 (fun hHeld => ?_)
  case hkr7 => exact ⟨fun h => absurd h (by decide), fun h => absurd h (by decide), fun _ => ((BQ4.out.far (p := ⟨M, 0, none⟩) (show M + 1 ≠ M by omega) (.int .i64 PX)).far (p := ⟨M, 1, none⟩) (show M + 1 ≠ M by omega) (.int .i64 PY)).cell 0, fun _ => ((BQ4.out.far (p := ⟨M, 0, none⟩) (show M + 1 ≠ M by omega) (.int .i64 PX)).far (p := ⟨M, 1, none⟩) (show M + 1 ≠ M by omega) (.int .i64 PY)).cell 1⟩
  clear hK K
  try simp only [Act.put, List.getElem_toArray, List.getElem_cons_zero, List.getElem_cons_succ, List.setIfInBounds_toArray, List.set_cons_zero, List.set_cons_succ]
  have BP5 := hide ((BP4.out.set_ 0 (.int .i64 PX)).set_ 1 (.int .i64 PY))
  have BQ5 := hide ((BQ4.out.far (p := ⟨M, 0, none⟩) (show M + 1 ≠ M by omega) (.int .i64 PX)).far (p := ⟨M, 1, none⟩) (show M + 1 ≠ M by omega) (.int .i64 PY))
  have HB5 := hide ((HB4.out.setCell (p := ⟨M, 0, none⟩) (Nat.le_refl _) (.int .i64 PX)).setCell (p := ⟨M, 1, none⟩) (Nat.le_refl _) (.int .i64 PY))
  have HO5 := hide (own_setCell_low (own_setCell_low HO4.out (a := ⟨M, 0, none⟩) (show M < M + 2 by omega) (.int .i64 PX)) (a := ⟨M, 1, none⟩) (show M < M + 2 by omega) (.int .i64 PY))
  clear p0 p1 fp0 fp1 BP4 BQ4 HB4 HO4 hs4
  generalize (w4.setCell ⟨M, 0, none⟩ (.int .i64 PX)).setCell ⟨M, 1, none⟩ (.int .i64 PY) = w5 at *
  have q0 : w5.cell? ⟨M + 1, 0, none⟩ = some (.int .i64 qx) := BQ5.out.cell 0
  have q1 : w5.cell? ⟨M + 1, 1, none⟩ = some (.int .i64 qy) := BQ5.out.cell 1
  have fq0 := BQ5.out.frozen 0
  have fq1 := BQ5.out.frozen 1
  refine wpAnyL_ready (rs := [8]) (by kernel_rfl) (by simp) (AllReadyL.cons rfl (fun K hK => ?_) AllReadyL.nil)
  go_simp
  refine hK.out _ _ ?hkr8 (fun hHeld => ?_)
  case hkr8 => exact ⟨fun h => absurd h (by decide), fun h => absurd h (by decide), fun h => absurd h (by decide), fun h => absurd h (by decide)⟩
  clear hK K
  try simp only [Act.put, List.getElem_toArray, List.getElem_cons_zero, List.getElem_cons_succ, List.setIfInBounds_toArray, List.set_cons_zero, List.set_cons_succ]
  have BP6 := hide ((BP5.out.far (p := ⟨M + 1, 0, none⟩) (show M ≠ M + 1 by omega) (.int .i64 QX)).far (p := ⟨M + 1, 1, none⟩) (show M ≠ M + 1 by omega) (.int .i64 QY))
  have BQ6 := hide ((BQ5.out.set_ 0 (.int .i64 QX)).set_ 1 (.int .i64 QY))
  have HB6 := hide ((HB5.out.setCell (p := ⟨M + 1, 0, none⟩) (show M ≤ M + 1 by omega) (.int .i64 QX)).setCell (p := ⟨M + 1, 1, none⟩) (show M ≤ M + 1 by omega) (.int .i64 QY))
  have HR6 := hide (RdF.of_own (own_setCell_low (own_setCell_low HO5.out (a := ⟨M + 1, 0, none⟩) (show M + 1 < M + 2 by omega) (.int .i64 QX)) (a := ⟨M + 1, 1, none⟩) (show M + 1 < M + 2 by omega) (.int .i64 QY)))
  clear q0 q1 fq0 fq1 BP5 BQ5 HB5 HO5 hHeld hmn hmn2
  generalize (w5.setCell ⟨M + 1, 0, none⟩ (.int .i64 QX)).setCell ⟨M + 1, 1, none⟩ (.int .i64 QY) = w6 at *
  have BP : Hid (Blk w6 M 24 #[.int .i64 PX, .int .i64 PY]) := BP6
  have BQ : Hid (Blk w6 (M + 1) 24 #[.int .i64 QX, .int .i64 QY]) := BQ6
  clear BP6 BQ6
  refine wpAnyL_done (by kernel_rfl) ?_ _
  have HFd := hide (fun wx (h : Below w6.heap.size w6 wx) => find_way_ok (w := wx) (c := c2) (HR6.out.below h) (by omega) (fun i _ => mkF_ok (fs i)) (PX, PY) (QX, QY) HE.out.1 HE.out.2 F1 L1 hb1 hb2)
  have HFe := hide (fun wx (h : Below w6.heap.size w6 wx) => find_way_ok (w := wx) (c := c2) (HR6.out.below h) (by omega) (fun i _ => mkF_ok (fs i)) (QX, QY) (PX, PY) HE.out.2 HE.out.1 (opZ L1) (opZ F1) (opZ_bd hb2).1 (opZ_bd hb1).1)
  have HT1 := hide (fun wx => turn_ok F1 hb1 wx)
  have HT2 := hide (fun wx => turn_ok L1 hb2 wx)
  have Hb1 := hide hb1
  have Hb2 := hide hb2
  unfold ptV at HFd HFe
  dsimp only at HFd HFe
  clear HR6 hb1 hb2 hm8 hsz
  go_simp
  go_upto_region 6 with (go_at_call 9; first | (with_reducible refine (HI1.out _).mono ?_; rintro e wx ⟨rfl, rfl⟩) | (with_reducible refine (HI2.out _).mono ?_; rintro e wx ⟨rfl, rfl⟩))
  have p0 : w6.cell? ⟨M, 0, none⟩ = some (.int .i64 PX) := BP.out.cell 0
  have p1 : w6.cell? ⟨M, 1, none⟩ = some (.int .i64 PY) := BP.out.cell 1
  have q0 : w6.cell? ⟨M + 1, 0, none⟩ = some (.int .i64 QX) := BQ.out.cell 0
  have q1 : w6.cell? ⟨M + 1, 1, none⟩ = some (.int .i64 QY) := BQ.out.cell 1
  clear HI1 HI2
  go_upto_region 7 with (go_at_call 10; refine (HFd.out w6 (Below.refl _ _)).mono ?_; rintro e w7 ⟨A7, m7, c7, Q7, g7, rfl, ho7, hb7, hp7⟩)
  have HO7 := hide ho7.1
  have hm7 := ho7.2
  have HP7 := hide hp7
  have HB7 := hide hb7
  have BP7 := hide (BP.out.below hb7 BP.out.lt)
  have BQ7 := hide (BQ.out.below hb7 BQ.out.lt)
  clear p0 p1 q0 q1 ho7 hp7 hb7 HFd
  have p0 : w7.cell? ⟨M, 0, none⟩ = some (.int .i64 PX) := BP7.out.cell 0
  have p1 : w7.cell? ⟨M, 1, none⟩ = some (.int .i64 PY) := BP7.out.cell 1
  have q0 : w7.cell? ⟨M + 1, 0, none⟩ = some (.int .i64 QX) := BQ7.out.cell 0
  have q1 : w7.cell? ⟨M + 1, 1, none⟩ = some (.int .i64 QY) := BQ7.out.cell 1
  have bpl := BP7.out.lt
  have bql := BQ7.out.lt
  have HFf := hide (HFe.out w7.drew (below_drewN HB7.out 1))
  clear HFe BP BQ BP7 BQ7
  go_cut [15, 16, 17] (fun u v x wc => ∃ (A' : Option Addr) (m' c' : Nat) (Q' : Nat → Pt) (g' : Int), u = .slice A' m' c' ∧ v = .int .i64 g' ∧ x = .int .i64 0 ∧ Hid (wc.ownsRow w7.heap.size 24 2 (.slice A' m' c') m' (rowF m' 2 (ptF Q')) ∧ m' ≤ 1000000) ∧ Hid (Below w7.heap.size w7 wc) ∧ Hid (FPost (QX, QY) (PX, PY) (opZ L1) (opZ F1) (fun i => mkF (fs i)) m2 g' ((List.range m').map Q')))
  case first =>
    go_region_held3 (fun w' => w'.cell? ⟨M, 0, none⟩ = some (.int .i64 PX) ∧ w'.cell? ⟨M, 1, none⟩ = some (.int .i64 PY) ∧ w'.cell? ⟨M + 1, 0, none⟩ = some (.int .i64 QX) ∧ w'.cell? ⟨M + 1, 1, none⟩ = some (.int .i64 QY))
      (first | go_keep | (go_split_ands; refine ⟨?_, ?_, ?_, ?_⟩ <;> first | (rw [hb8.cell bpl]; assumption) | (rw [hb8.cell bql]; assumption)))
      (first
        | (go_at_call 12; first | (with_reducible refine (HT2.out _).mono ?_; rintro e8 w8 ⟨rfl, rfl⟩) | (with_reducible refine (HT1.out _).mono ?_; rintro e8 w8 ⟨rfl, rfl⟩))
        | (go_at_call 10; refine HFf.out.mono ?_; rintro e8 w8 ⟨A8, m8, c8, Q8, g8, rfl, ho8, hb8, hp8⟩))
    all_goals (
      have G1 := hide ho8
      have G2 := hide (Below.trans (b := w7.drew) (below_drewN (Below.refl _ _) 1) hb8)
      have G3 := hide hp8
      clear ho8 hb8 hp8
      go_wp2_with fail
      go_meet
      exact ⟨A8, m8, c8, Q8, g8, rfl, rfl, rfl, G1, G2, G3⟩)
  case rest =>
    obtain ⟨A8, m8, c8, Q8, g8, rfl, rfl, rfl, HO8, HB8, HP8⟩ := hcut
    obtain ⟨w8, rfl⟩ : ∃ wx : World, wx = wc := ⟨_, rfl⟩
    clear p0 p1 q0 q1 bpl bql HFf HT1 HT2
    have hsm := find_small Hb1.out Hb2.out (fun i _ => mkF_ok (fs i)) HE.out.1 HE.out.2 HP7.out
    have hsm8 := find_small (opZ_bd Hb2.out).1 (opZ_bd Hb1.out).1 (fun i _ => mkF_ok (fs i)) HE.out.2 HE.out.1 HP8.out
    obtain ⟨rfl, rfl, hl⟩ := rows_back Hb1.out Hb2.out HP7.out HP8.out
    have HM7 := hide (fun wx (h : Below w8.heap.size w8 wx) => measure_ok (w := wx) (c := c7) (((RdF.of_own HO7.out).below HB8.out).below h) hm7 hsm)
    have HM8 := hide (fun wx (h : Below w8.heap.size w8 wx) => measure_ok (w := wx) (c := c8) ((RdF.of_own HO8.out.1).below h) hm7 hsm8)
    rw [← hl] at HM8
    have HB9 := hide ((HB6.out.trans (HB7.out.mono (Nat.le_trans (Nat.le_of_eq HM.out) HB6.out.size))).trans (HB8.out.mono (Nat.le_trans (Nat.le_trans (Nat.le_of_eq HM.out) HB6.out.size) HB7.out.size)))
    clear hsm hsm8 hl HP7 HP8 HO7 HO8 HB7 HB8 HB6 HE HE2 Hb1 Hb2 hm7
    generalize lenF Q7 m7 = ln at *
    generalize mxI ((m7 : Int) - 2) 0 = mx at *
    go_upto_region 11 with (go_at_call 13; refine (HM7.out w8 (Below.refl _ _)).mono ?_; rintro e w9 ⟨rfl, k9, rfl⟩)
    go_upto_region 12 with (go_at_call 13; refine (HM8.out _ (below_drewN (Below.refl _ _) k9)).mono ?_; rintro e w9 ⟨rfl, k10, rfl⟩)
    clear HM7 HM8
    go_wp2_with fail
    go_ret
    exact ⟨rfl, below_drewN HB9.out _⟩

theorem walked : Walked Try.checked.prog 4 Try.f4 := by
  intro H enc W args ds ps hval hA
  rw [Try.params4] at hA hval
  obtain ⟨v0, ll0, d0, m0, p0, q0, e0, _, h0, kk0⟩ := Frm.trodAll_cons hA
  obtain ⟨v1, ll1, d1, m1, p1, q1, rfl, _, h1, kk1⟩ := Frm.trodAll_cons kk0
  obtain ⟨v2, ll2, d2, m2, p2, q2, rfl, _, h2, kk2⟩ := Frm.trodAll_cons kk1
  obtain ⟨v3, ll3, d3, m3, p3, q3, rfl, _, h3, kk3⟩ := Frm.trodAll_cons kk2
  obtain ⟨v4, ll4, d4, m4, p4, q4, rfl, _, h4, kk4⟩ := Frm.trodAll_cons kk3
  obtain rfl := Frm.trodAll_nil kk4
  obtain rfl : args = #[v0, v1, v2, v3, v4] := by cases args; simp_all
  obtain ⟨a0, l0, k0, rfl⟩ := okWide_slice Try.underlying22 (hval 0 _ _ rfl rfl)
  obtain ⟨fuel, h0⟩ := h0
  obtain ⟨A, n, c, fs, hs, hn, hr, hf⟩ := frames_trod (v := .slice a0 l0 k0) h0
  rw [hs]
  obtain ⟨p, rfl, hp⟩ := point_trod (hval 1 _ _ rfl rfl) h1
  obtain ⟨q, rfl, hq⟩ := point_trod (hval 2 _ _ rfl rfl) h2
  obtain ⟨x, rfl, _, _, wx⟩ := open_int Try.underlying3 (hval 3 _ _ rfl rfl) h3
  obtain ⟨y, rfl, _, _, wy⟩ := open_int Try.underlying3 (hval 4 _ _ rfl rfl) h4
  exact walk A n c fs p q x y W hn hr hf hp hq wx wy

theorem lifted (os : Os) (started : os.Started) (H : Type) (enc : TypeId × Value → H) :
    ReturnsInHanded {} Try.checked os 4 .any (Rows.routeBackwardsSpec.pre6 enc Try.prog Try.f4 Rows.routeBackwardsRow.domain false) (Rows.routeBackwardsSpec.post enc Try.prog Try.f4 false true false false) :=
  law_lift (C := Try.checked) (tb := 4) (by kernel_rfl) started (by kernel_rfl) Try.func4 rfl
    (fun ds h => match ds, h with | [_, _, _, _, _], _ => rfl) rfl Try.underlying4 (by kernel_rfl) (by kernel_rfl)
    (ChangeSpec.witness6 (enc := enc) (C := Try.checked) false ⟨#[], #[.slice none 0 0, .agg #[.int .i64 0, .int .i64 0], .agg #[.int .i64 0, .int .i64 0], .int .i64 0, .int .i64 0], []⟩ 8 (by kernel_rfl) (by kernel_rfl) (by kernel_rfl) (by kernel_rfl))
    walked

/-- THE STATEMENT -/
theorem proved : Rows.RouteBackwardsSaid :=
  OpenClaim.holds_of_wide 4 Try.f4 rfl rfl rfl rfl rfl rfl rfl ⟨rfl, rfl, rfl, rfl, rfl⟩ rfl rfl rfl rfl rfl (by kernel_rfl) Try.func4 (by kernel_rfl)
    (of_decide_eq_true (by kernel_rfl)) (by unfold Func.isWrapper; first | (rw [if_pos (by decide +kernel)]; kernel_rfl) | (rw [if_neg (by decide +kernel)]; exact ⟨rfl, rfl⟩))
    (fun os started H enc _ => lifted os started H enc)
#print axioms proved
end Go.Proofs.Ytegmokdhfmgdgaa.RouteBackwardsDone
