/- A turn changes the lengths of a shape's sides by no more than rounding. No condition. -/
import Derived.Test.YtnmikhmbnpiadaaDoorShapeSet
import Derived.Test.YtnmikhmbnpiadaaDoorShapeSidePlain
import Derived.Test.YtnmikhmbnpiadaaDoorShapeTab
import Derived.Test.YtnmikhmbnpiadaaDoorTie
namespace Go.Proofs.YtnmikhmbnpiadaaDoor.ShapeTurnKeepsSidesDone
open Go.ChangeShapes Go.WideShapes Go.ChangeAt Go.RowKit Go.Frm Wi Shp

/-- the corners of the only shape -/
theorem one_corners (G : Nat → Nat → Int) (h : G 0 1 = 0) : CornersAt G 1 0 (ctX G 0) (ctY G 0) := fun _ _ => ⟨0, by rw [h]; exact OutTo.done _ _ _⟩
theorem rdu_diff (a b : Int) (L c : Int) (h : a - b = 2 * (L * c)) : (65536 * (rdu a 131072 - rdu b 131072) - L * c).natAbs ≤ 65536 := by
  unfold rdu
  generalize L * c = m at *
  omega

/-- what the sides of a shape are -/
def SideOk (L dx dy : Int) : Prop := dx * dx + dy * dy ≤ (L + 3) * (L + 3) ∧ (3 ≤ L → (L - 3) * (L - 3) ≤ dx * dx + dy * dy) ∧ dx.natAbs ≤ 1503 ∧ dy.natAbs ≤ 1503
theorem sideOk (L c s dx dy : Int) (hL : 0 ≤ L) (hL2 : L ≤ 1500) (n1 : -430000 ≤ c * c + s * s - 4294967296) (n2 : c * c + s * s - 4294967296 ≤ 430000) (hs : c.natAbs + s.natAbs ≤ 92690)
    (hx : (65536 * dx - L * c).natAbs ≤ 65536) (hy : (65536 * dy - L * s).natAbs ≤ 65536) (hc1 : c.natAbs ≤ 65537) (hs1 : s.natAbs ≤ 65537) : SideOk L dx dy := by
  have h := side_ok L c s dx dy hL hL2 n1 n2 hs hx hy
  have b1 := mul_in (a := L) (b := c) (A := 1500) (B := 65537) (by omega) hc1
  have b2 := mul_in (a := L) (b := s) (A := 1500) (B := 65537) (by omega) hs1
  exact ⟨h.1, h.2, by omega, by omega⟩
theorem sides (G : Nat → Nat → Int) (hw : 0 ≤ G 0 5 ∧ G 0 5 ≤ 1500) (hh : 0 ≤ G 0 6 ∧ G 0 6 ≤ 1500) (ht : 0 ≤ G 0 7 ∧ G 0 7 < 3600) :
    SideOk (G 0 5) (ctX G 0 1 - ctX G 0 0) (ctY G 0 1 - ctY G 0 0) ∧ SideOk (G 0 6) (ctX G 0 2 - ctX G 0 1) (ctY G 0 2 - ctY G 0 1) ∧
    SideOk (G 0 5) (ctX G 0 3 - ctX G 0 2) (ctY G 0 3 - ctY G 0 2) ∧ SideOk (G 0 6) (ctX G 0 0 - ctX G 0 3) (ctY G 0 0 - ctY G 0 3) := by
  obtain ⟨n1, n2, n3⟩ := circle (G 0 7) ht.1 ht.2
  have hb1 := sn_bd (G 0 7)
  have hb2 := sn_bd (G 0 7 + 900)
  simp only [ctX, ctY, tuX, tuY, crX, crY]
  generalize sn (G 0 7) = s at *
  generalize sn (G 0 7 + 900) = c at *
  generalize G 0 3 = X at *
  generalize G 0 4 = Y at *
  generalize G 0 5 = W at *
  generalize G 0 6 = H at *
  have q1 : (-s) * (-s) = s * s := by grind
  have q2 : (-c) * (-c) = c * c := by grind
  refine ⟨sideOk W c s _ _ hw.1 hw.2 (by omega) (by omega) (by omega) (rdu_diff _ _ _ _ (by simp; grind)) (rdu_diff _ _ _ _ (by simp; grind)) (by omega) (by omega),
    sideOk H (-s) c _ _ hh.1 hh.2 (by omega) (by omega) (by omega) (rdu_diff _ _ _ _ (by simp; grind)) (rdu_diff _ _ _ _ (by simp; grind)) (by omega) (by omega),
    sideOk W (-c) (-s) _ _ hw.1 hw.2 (by omega) (by omega) (by omega) (rdu_diff _ _ _ _ (by simp; grind)) (rdu_diff _ _ _ _ (by simp; grind)) (by omega) (by omega),
    sideOk H s (-c) _ _ hh.1 hh.2 (by omega) (by omega) (by omega) (rdu_diff _ _ _ _ (by simp; grind)) (rdu_diff _ _ _ _ (by simp; grind)) (by omega) (by omega)⟩

theorem sq_bd (x : Int) (h : x.natAbs ≤ 1503) : 0 ≤ x * x ∧ x * x ≤ 2259009 := by
  have h1 : (x * x).natAbs ≤ 1503 * 1503 := by rw [Int.natAbs_mul]; exact Nat.mul_le_mul h h
  have h2 : 0 ≤ x * x := by rw [← Int.natAbs_mul_self]; omega
  omega
def L3 (L : Int) : Int := if L < 3 then 0 else L - 3
theorem l3_bd (L : Int) (h : 0 ≤ L) (h2 : L ≤ 1500) : (L3 L).natAbs ≤ 1503 ∧ (L < 3 ∧ L3 L = 0 ∨ 3 ≤ L ∧ L3 L = L - 3) := by
  unfold L3
  split <;> omega
theorem sides_no (L dx dy : Int) (h1 : dx * dx + dy * dy ≤ (L + 3) * (L + 3)) (h2 : 3 ≤ L → (L - 3) * (L - 3) ≤ dx * dx + dy * dy) : ¬ (L + 3) * (L + 3) < dx * dx + dy * dy ∧ (3 ≤ L → ¬ dx * dx + dy * dy < (L - 3) * (L - 3)) :=
  ⟨by omega, fun h => by have := h2 h; omega⟩

set_option maxRecDepth 100000 in
set_option maxHeartbeats 4000000 in
theorem walk (G : Nat → Nat → Int) (T : Nat → Nat → ByteArray) (turn : Int) (w : World) (hq : TabQ w) (hwf : ∀ j, j < 10 → (Lit.int .i64 (G 0 j)).wf = true) (ht : (Lit.int .i64 turn).wf = true) :
    Calls Tryd.prog 3 #[shA G T 0, .int .i64 turn] w fun e w' => e = .returned (.bool true) ∧ Below w.heap.size w w' := by
  have Hq := hide hq
  have Hwf := hide hwf
  have Hwt := hide (fun wx => within_any turn 0 3599 wx ht (by omega) (by omega) (by omega))
  have htb := wi_bd turn (show (0 : Int) ≤ 3599 by omega)
  clear hq hwf ht
  unfold shA
  go_enter Tryd.func3, Tryd.ntmps3
  go_wp2_with fail
  have hb0 : Blk (w.alloc (.cells (shC G T 0) 23)) w.heap.size 23 (shC G T 0) := Blk.new w _ _
  have hbel0 : Below w.heap.size w (w.alloc (.cells (shC G T 0) 23)) := (Below.refl _ _).alloc (Nat.le_refl _) _
  unfold shC at hb0 hbel0
  generalize w.alloc (.cells #[.int .i64 (G 0 0), .int .i64 (G 0 1), .int .i64 (G 0 2), .int .i64 (G 0 3), .int .i64 (G 0 4), .int .i64 (G 0 5), .int .i64 (G 0 6), .int .i64 (G 0 7), .int .i64 (G 0 8), .int .i64 (G 0 9), .string (T 0 10), .string (T 0 11)] 23) = w0 at *
  refine (keptTurned_ok w0 (Hq.out.below hbel0)).mono ?_
  rintro e w1 ⟨rfl, hb1⟩
  have b1 := hb0.below hb1 hb0.lt
  have hbl1 := hbel0.trans (hb1.mono hbel0.size)
  clear hb0 hbel0 hb1
  have m0 : w1.cell? ⟨w.heap.size, 0, none⟩ = some (.int .i64 (G 0 0)) := b1.cell 0
  have m1 : w1.cell? ⟨w.heap.size, 1, none⟩ = some (.int .i64 (G 0 1)) := b1.cell 1
  have m2 : w1.cell? ⟨w.heap.size, 2, none⟩ = some (.int .i64 (G 0 2)) := b1.cell 2
  have m3 : w1.cell? ⟨w.heap.size, 3, none⟩ = some (.int .i64 (G 0 3)) := b1.cell 3
  have m4 : w1.cell? ⟨w.heap.size, 4, none⟩ = some (.int .i64 (G 0 4)) := b1.cell 4
  have m5 : w1.cell? ⟨w.heap.size, 5, none⟩ = some (.int .i64 (G 0 5)) := b1.cell 5
  have m6 : w1.cell? ⟨w.heap.size, 6, none⟩ = some (.int .i64 (G 0 6)) := b1.cell 6
  have m7 : w1.cell? ⟨w.heap.size, 7, none⟩ = some (.int .i64 (G 0 7)) := b1.cell 7
  have m8 : w1.cell? ⟨w.heap.size, 8, none⟩ = some (.int .i64 (G 0 8)) := b1.cell 8
  have m9 : w1.cell? ⟨w.heap.size, 9, none⟩ = some (.int .i64 (G 0 9)) := b1.cell 9
  have m10 : w1.cell? ⟨w.heap.size, 10, none⟩ = some (.string (T 0 10)) := b1.cell 10
  have m11 : w1.cell? ⟨w.heap.size, 11, none⟩ = some (.string (T 0 11)) := b1.cell 11
  go_wp2_with fail
  have hn2 : Blk (w1.alloc (.cells (shC G T 0) 23)) w1.heap.size 23 (shC G T 0) := Blk.new w1 _ _
  have hbl2 : Below w.heap.size w (w1.alloc (.cells (shC G T 0) 23)) := hbl1.alloc hbl1.size _
  unfold shC at hn2 hbl2
  generalize w1.alloc (.cells #[.int .i64 (G 0 0), .int .i64 (G 0 1), .int .i64 (G 0 2), .int .i64 (G 0 3), .int .i64 (G 0 4), .int .i64 (G 0 5), .int .i64 (G 0 6), .int .i64 (G 0 7), .int .i64 (G 0 8), .int .i64 (G 0 9), .string (T 0 10), .string (T 0 11)] 23) = w2 at *
  refine (shapes_ok (some ⟨w1.heap.size, 0, none⟩) 1 1 G T false w2 (rdF_one hn2) (by omega) (fun i j hi hj => (show i = 0 by omega) ▸ Hwf.out j hj)).mono ?_
  rintro e w3 ⟨A, c, rfl, hown, hb3⟩
  have hbl3 := hbl2.trans (hb3.mono hbl2.size)
  rw [show min 1 10 = 1 from rfl] at hown ⊢
  obtain ⟨b, rfl, hbb, hbs, hcc, hfz⟩ := own_addr hown (by omega)
  have hrd := RdF.of_own hown
  obtain ⟨b', off', hA, hc⟩ := hrd.at_ (show 0 < 1 by omega)
  injection hA with hA
  injection hA with hA1 hA2
  subst hA1 hA2
  have c7 : w3.cell? ⟨b, 7, none⟩ = some (.int .i64 (sturn G false 0)) := hc 7 (by omega)
  have z7 : w3.frozen? ⟨b, 7, none⟩ = false := hfz 7
  have hbw : w.heap.size ≤ b := Nat.le_trans hbl2.size hbb
  clear hfz
  clear hc hown hn2 hb3 m0 m1 m2 m3 m4 m5 m6 m7 m8 m9 m10 m11 b1
  go_wp2_with (go_at_call 11; (with_reducible refine (Hwt.out _).mono ?_); rintro e w4 ⟨rfl, rfl⟩)
  have hrs : RdF (w3.setCell ⟨b, 7, none⟩ (.int .i64 (wi turn 0 3599))) (some ⟨b, 0, none⟩) 1 12 (shV (updT (shG G false) 0 (wi turn 0 3599)) (shT T)) := by
    have := rdF_updT (t := wi turn 0 3599) hrd (show 0 < 1 by omega)
    simpa using this
  have hbs4 : Below w.heap.size w (w3.setCell ⟨b, 7, none⟩ (.int .i64 (wi turn 0 3599))) := hbl3.setCell (p := ⟨b, 7, none⟩) hbw _
  have hok := updT_ok (k := 0) (t := wi turn 0 3599) (made_ok G false (m := 1) (by omega)) (by omega) (by omega)
  have hpar : updT (shG G false) 0 (wi turn 0 3599) 0 1 = 0 := by
    rw [updT_of (by omega)]
    rfl
  have hco := Corners_ok (some ⟨b, 0, none⟩) 1 c 0 (updT (shG G false) 0 (wi turn 0 3599)) (shT T) _ _ 1 _ (Hq.out.below hbs4) hok hrs hcc (by omega) (by rfl) (one_corners _ hpar)
  have hw5 := (hok.wh 0 (by omega))
  have hsd := sides (updT (shG G false) 0 (wi turn 0 3599)) (by rw [updT_of (by omega)]; exact wi_bd _ (by omega)) (by rw [updT_of (by omega)]; exact wi_bd _ (by omega)) (hok.turn 0 (by omega))
  have HW := hide (show updT (shG G false) 0 (wi turn 0 3599) 0 5 ≤ 1500 ∧ updT (shG G false) 0 (wi turn 0 3599) 0 6 ≤ 1500 from ⟨by rw [updT_of (by omega)]; exact (wi_bd _ (by omega)).2, by rw [updT_of (by omega)]; exact (wi_bd _ (by omega)).2⟩)
  generalize updT (shG G false) 0 (wi turn 0 3599) = G2 at *
  generalize w3.setCell ⟨b, 7, none⟩ (.int .i64 (wi turn 0 3599)) = w4 at *
  have Hco := hide hco
  have Hsd := hide hsd
  clear hco hsd hpar c7 z7 hrd hbl3
  refine Hco.out.mono ?_
  rintro e w5 ⟨g, rfl, hg, hbk, hb5⟩
  have hbl5 := hbs4.trans (hb5.mono hbs4.size)
  have hr5 := hrs.below hb5
  obtain ⟨b', off', hA, k0, k1, k2, k3, k4, k5, k6, k7, k8, k9, k10, k11⟩ := cells12 hr5 (show 0 < 1 by omega)
  injection hA with hA
  injection hA with hA1 hA2
  subst hA1 hA2
  simp only [Nat.zero_mul, Nat.zero_add] at k5 k6
  clear k0 k1 k2 k3 k4 k7 k8 k9 k10 k11 hrs hr5 hb5
  have wb := hok.wh 0 (by omega)
  have hW : G2 0 5 ≤ 1500 ∧ G2 0 6 ≤ 1500 := HW.out
  generalize ctX G2 0 = P at *
  generalize ctY G2 0 = Q at *
  generalize G2 0 5 = W at *
  generalize G2 0 6 = H at *
  have p0 : w5.cell? ⟨g, 0, none⟩ = some (.int .i64 (P 0)) := hbk.cell 0
  clear HW hok Hco
  go_upto_region 8 with fail
  go_region
  go_upto_region 9 with fail
  have bg : Blk (w5.alloc (.cells #[.int .i64 W, .int .i64 H, .int .i64 W, .int .i64 H] 3)).drew g 54 (ptC4 P Q) := (hbk.alloc _).drewN 1
  have bi : Blk (w5.alloc (.cells #[.int .i64 W, .int .i64 H, .int .i64 W, .int .i64 H] 3)).drew w5.heap.size 3 #[.int .i64 W, .int .i64 H, .int .i64 W, .int .i64 H] := (Blk.new w5 _ _).drewN 1
  have bb : Below w.heap.size w (w5.alloc (.cells #[.int .i64 W, .int .i64 H, .int .i64 W, .int .i64 H] 3)).drew := below_drewN (hbl5.alloc hbl5.size _) 1
  clear hbk hbl5 k5 k6 p0
  generalize (w5.alloc (.cells #[.int .i64 W, .int .i64 H, .int .i64 W, .int .i64 H] 3)).drew = w6 at *
  go_loopw [55] (fun a wr => ∃ (m : Nat) (z : Int), Nth m z ∧ a = .int .i64 z ∧ Blk wr g 54 (ptC4 P Q) ∧ Blk wr w5.heap.size 3 #[.int .i64 W, .int .i64 H, .int .i64 W, .int .i64 H] ∧ Below w.heap.size w wr) (fun a _ => 4 - (intOf a).toNat)
  case atStart => exact ⟨0, 0, .inl ⟨rfl, rfl⟩, rfl, bg, bi, bb⟩
  case round =>
    clear bg bi bb
    obtain ⟨m, z, hnth, rfl, bg, bi, bb⟩ := hrel
    rcases hnth with ⟨rfl, rfl⟩ | ⟨rfl, rfl⟩ | ⟨rfl, rfl⟩ | ⟨rfl, rfl⟩ | ⟨rfl, rfl⟩
    · obtain ⟨s1, s2, s3, s4⟩ := Hsd.out.1
      have g0 : wr.cell? ⟨g, 0, none⟩ = some (.int .i64 (P 0)) := bg.cell 0
      have g1 : wr.cell? ⟨g, 1, none⟩ = some (.int .i64 (Q 0)) := bg.cell 1
      have g2 : wr.cell? ⟨g, 2, none⟩ = some (.int .i64 (P 1)) := bg.cell 2
      have g3 : wr.cell? ⟨g, 3, none⟩ = some (.int .i64 (Q 1)) := bg.cell 3
      have i0 : wr.cell? ⟨w5.heap.size, 0, none⟩ = some (.int .i64 W) := bi.cell 0
      obtain ⟨dx, hdx⟩ : ∃ d, d = P 1 - P 0 := ⟨_, rfl⟩
      have x0 : IntKind.i64.wrap (P 1 - P 0) = dx := by rw [hdx]; exact IntWalk.i64_in _ (by omega)
      obtain ⟨dy, hdy⟩ : ∃ d, d = Q 1 - Q 0 := ⟨_, rfl⟩
      have y0 : IntKind.i64.wrap (Q 1 - Q 0) = dy := by rw [hdy]; exact IntWalk.i64_in _ (by omega)
      rw [← hdx] at s1 s2 s3
      clear hdx
      rw [← hdy] at s1 s2 s4
      clear hdy
      have Bg := hide bg
      have Bi := hide bi
      have Bb := hide bb
      have q1 := sq_bd dx s3
      have q2 := sq_bd dy s4
      have q3 : 0 ≤ (L3 W) * (L3 W) ∧ (L3 W) * (L3 W) ≤ 2259009 := sq_bd (L3 W) (l3_bd W (by omega) (by omega)).1
      have q4 := sq_bd (W + 3) (by omega)
      have hN := sides_no W dx dy s1 s2
      clear bg bi bb s1 s2
      go_upto_region 11 with fail
      go_quiet (fail)
      rcases (l3_bd W (by omega) (by omega)).2 with ⟨c1, e1⟩ | ⟨c1, e1⟩
      · have z1 : ¬ dx * dx + dy * dy < 0 := by omega
        have z2 := hN.1
        clear e1 hN q3
        go_wp2_with fail
        exact ⟨⟨1, 1, .inr (.inl ⟨rfl, rfl⟩), rfl, Bg.out.drewN _, Bi.out.drewN _, below_drewN Bb.out _⟩, by simp only [intOf]; decide⟩
      · rw [e1] at q3
        have z1 := hN.2 c1
        have z2 := hN.1
        clear e1 hN
        go_wp2_with fail
        exact ⟨⟨1, 1, .inr (.inl ⟨rfl, rfl⟩), rfl, Bg.out.drewN _, Bi.out.drewN _, below_drewN Bb.out _⟩, by simp only [intOf]; decide⟩
    · obtain ⟨s1, s2, s3, s4⟩ := Hsd.out.2.1
      have g0 : wr.cell? ⟨g, 2, none⟩ = some (.int .i64 (P 1)) := bg.cell 2
      have g1 : wr.cell? ⟨g, 3, none⟩ = some (.int .i64 (Q 1)) := bg.cell 3
      have g2 : wr.cell? ⟨g, 4, none⟩ = some (.int .i64 (P 2)) := bg.cell 4
      have g3 : wr.cell? ⟨g, 5, none⟩ = some (.int .i64 (Q 2)) := bg.cell 5
      have i0 : wr.cell? ⟨w5.heap.size, 1, none⟩ = some (.int .i64 H) := bi.cell 1
      obtain ⟨dx, hdx⟩ : ∃ d, d = P 2 - P 1 := ⟨_, rfl⟩
      have x0 : IntKind.i64.wrap (P 2 - P 1) = dx := by rw [hdx]; exact IntWalk.i64_in _ (by omega)
      obtain ⟨dy, hdy⟩ : ∃ d, d = Q 2 - Q 1 := ⟨_, rfl⟩
      have y0 : IntKind.i64.wrap (Q 2 - Q 1) = dy := by rw [hdy]; exact IntWalk.i64_in _ (by omega)
      rw [← hdx] at s1 s2 s3
      clear hdx
      rw [← hdy] at s1 s2 s4
      clear hdy
      have Bg := hide bg
      have Bi := hide bi
      have Bb := hide bb
      have q1 := sq_bd dx s3
      have q2 := sq_bd dy s4
      have q3 : 0 ≤ (L3 H) * (L3 H) ∧ (L3 H) * (L3 H) ≤ 2259009 := sq_bd (L3 H) (l3_bd H (by omega) (by omega)).1
      have q4 := sq_bd (H + 3) (by omega)
      have hN := sides_no H dx dy s1 s2
      clear bg bi bb s1 s2
      go_upto_region 11 with fail
      go_quiet (fail)
      rcases (l3_bd H (by omega) (by omega)).2 with ⟨c1, e1⟩ | ⟨c1, e1⟩
      · have z1 : ¬ dx * dx + dy * dy < 0 := by omega
        have z2 := hN.1
        clear e1 hN q3
        go_wp2_with fail
        exact ⟨⟨2, 2, .inr (.inr (.inl ⟨rfl, rfl⟩)), rfl, Bg.out.drewN _, Bi.out.drewN _, below_drewN Bb.out _⟩, by simp only [intOf]; decide⟩
      · rw [e1] at q3
        have z1 := hN.2 c1
        have z2 := hN.1
        clear e1 hN
        go_wp2_with fail
        exact ⟨⟨2, 2, .inr (.inr (.inl ⟨rfl, rfl⟩)), rfl, Bg.out.drewN _, Bi.out.drewN _, below_drewN Bb.out _⟩, by simp only [intOf]; decide⟩
    · obtain ⟨s1, s2, s3, s4⟩ := Hsd.out.2.2.1
      have g0 : wr.cell? ⟨g, 4, none⟩ = some (.int .i64 (P 2)) := bg.cell 4
      have g1 : wr.cell? ⟨g, 5, none⟩ = some (.int .i64 (Q 2)) := bg.cell 5
      have g2 : wr.cell? ⟨g, 6, none⟩ = some (.int .i64 (P 3)) := bg.cell 6
      have g3 : wr.cell? ⟨g, 7, none⟩ = some (.int .i64 (Q 3)) := bg.cell 7
      have i0 : wr.cell? ⟨w5.heap.size, 2, none⟩ = some (.int .i64 W) := bi.cell 2
      obtain ⟨dx, hdx⟩ : ∃ d, d = P 3 - P 2 := ⟨_, rfl⟩
      have x0 : IntKind.i64.wrap (P 3 - P 2) = dx := by rw [hdx]; exact IntWalk.i64_in _ (by omega)
      obtain ⟨dy, hdy⟩ : ∃ d, d = Q 3 - Q 2 := ⟨_, rfl⟩
      have y0 : IntKind.i64.wrap (Q 3 - Q 2) = dy := by rw [hdy]; exact IntWalk.i64_in _ (by omega)
      rw [← hdx] at s1 s2 s3
      clear hdx
      rw [← hdy] at s1 s2 s4
      clear hdy
      have Bg := hide bg
      have Bi := hide bi
      have Bb := hide bb
      have q1 := sq_bd dx s3
      have q2 := sq_bd dy s4
      have q3 : 0 ≤ (L3 W) * (L3 W) ∧ (L3 W) * (L3 W) ≤ 2259009 := sq_bd (L3 W) (l3_bd W (by omega) (by omega)).1
      have q4 := sq_bd (W + 3) (by omega)
      have hN := sides_no W dx dy s1 s2
      clear bg bi bb s1 s2
      go_upto_region 11 with fail
      go_quiet (fail)
      rcases (l3_bd W (by omega) (by omega)).2 with ⟨c1, e1⟩ | ⟨c1, e1⟩
      · have z1 : ¬ dx * dx + dy * dy < 0 := by omega
        have z2 := hN.1
        clear e1 hN q3
        go_wp2_with fail
        exact ⟨⟨3, 3, .inr (.inr (.inr (.inl ⟨rfl, rfl⟩))), rfl, Bg.out.drewN _, Bi.out.drewN _, below_drewN Bb.out _⟩, by simp only [intOf]; decide⟩
      · rw [e1] at q3
        have z1 := hN.2 c1
        have z2 := hN.1
        clear e1 hN
        go_wp2_with fail
        exact ⟨⟨3, 3, .inr (.inr (.inr (.inl ⟨rfl, rfl⟩))), rfl, Bg.out.drewN _, Bi.out.drewN _, below_drewN Bb.out _⟩, by simp only [intOf]; decide⟩
    · obtain ⟨s1, s2, s3, s4⟩ := Hsd.out.2.2.2
      have g0 : wr.cell? ⟨g, 6, none⟩ = some (.int .i64 (P 3)) := bg.cell 6
      have g1 : wr.cell? ⟨g, 7, none⟩ = some (.int .i64 (Q 3)) := bg.cell 7
      have g2 : wr.cell? ⟨g, 0, none⟩ = some (.int .i64 (P 0)) := bg.cell 0
      have g3 : wr.cell? ⟨g, 1, none⟩ = some (.int .i64 (Q 0)) := bg.cell 1
      have i0 : wr.cell? ⟨w5.heap.size, 3, none⟩ = some (.int .i64 H) := bi.cell 3
      obtain ⟨dx, hdx⟩ : ∃ d, d = P 0 - P 3 := ⟨_, rfl⟩
      have x0 : IntKind.i64.wrap (P 0 - P 3) = dx := by rw [hdx]; exact IntWalk.i64_in _ (by omega)
      obtain ⟨dy, hdy⟩ : ∃ d, d = Q 0 - Q 3 := ⟨_, rfl⟩
      have y0 : IntKind.i64.wrap (Q 0 - Q 3) = dy := by rw [hdy]; exact IntWalk.i64_in _ (by omega)
      rw [← hdx] at s1 s2 s3
      clear hdx
      rw [← hdy] at s1 s2 s4
      clear hdy
      have Bg := hide bg
      have Bi := hide bi
      have Bb := hide bb
      have q1 := sq_bd dx s3
      have q2 := sq_bd dy s4
      have q3 : 0 ≤ (L3 H) * (L3 H) ∧ (L3 H) * (L3 H) ≤ 2259009 := sq_bd (L3 H) (l3_bd H (by omega) (by omega)).1
      have q4 := sq_bd (H + 3) (by omega)
      have hN := sides_no H dx dy s1 s2
      clear bg bi bb s1 s2
      go_upto_region 11 with fail
      go_quiet (fail)
      rcases (l3_bd H (by omega) (by omega)).2 with ⟨c1, e1⟩ | ⟨c1, e1⟩
      · have z1 : ¬ dx * dx + dy * dy < 0 := by omega
        have z2 := hN.1
        clear e1 hN q3
        go_wp2_with fail
        exact ⟨⟨4, 4, .inr (.inr (.inr (.inr (⟨rfl, rfl⟩)))), rfl, Bg.out.drewN _, Bi.out.drewN _, below_drewN Bb.out _⟩, by simp only [intOf]; decide⟩
      · rw [e1] at q3
        have z1 := hN.2 c1
        have z2 := hN.1
        clear e1 hN
        go_wp2_with fail
        exact ⟨⟨4, 4, .inr (.inr (.inr (.inr (⟨rfl, rfl⟩)))), rfl, Bg.out.drewN _, Bi.out.drewN _, below_drewN Bb.out _⟩, by simp only [intOf]; decide⟩
    · go_wp2_with fail
      go_ret
      exact ⟨rfl, bb⟩

theorem walked : WalkedL Tryd.checked.prog 3 Tryd.f3 [("chancery/shape.quarter", Rows.laid_chancery_shape_quarter)] := by
  intro H enc W args ds ps hval hA hL
  have ht : TabQ W := tabQ_of ⟨_, _, rfl, rfl⟩ (by kernel_rfl) hL
  rw [Tryd.params3] at hA hval
  obtain ⟨v0, l0, d0, m0, p0, q0, e0, _, h0, k0⟩ := Frm.trodAll_cons hA
  obtain ⟨v1, l1, d1, m1, p1, q1, rfl, _, h1, k1⟩ := Frm.trodAll_cons k0
  obtain rfl := Frm.trodAll_nil k1
  obtain rfl : args = #[v0, v1] := by cases args; simp_all
  obtain ⟨G, T, rfl, hwf⟩ := shape_trod (hval 0 _ _ rfl rfl) h0
  obtain ⟨x, rfl, _, _, wx⟩ := open_int Tryd.underlying3 (hval 1 _ _ rfl rfl) h1
  exact walk G T x W ht hwf wx

def laidL : List (String × DataW Unit) := [("chancery/shape.quarter", Rows.laid_chancery_shape_quarter)]
theorem door_met (os : Os) (args : Array Value) : laidMetH Tryd.prog laidL ((World.doorLaid Tryd.prog 400 os).forCall (fun _ _ => 0) ⟨#[], args, []⟩).memory :=
  laidMetH_of_parts3 (fuel := 8) (laidMet_of_run' 8 (by kernel_rfl) (by kernel_rfl)) (by kernel_rfl) (by kernel_rfl)

set_option maxRecDepth 100000 in
theorem lifted (os : Os) (started : os.Started) (H : Type) (enc : TypeId × Value → H) :
    ReturnsInHanded {} Tryd.checked os 3 .any (fun w args => (Rows.shapeTurnKeepsSidesSpec.pre enc Tryd.prog Tryd.f3 [] false w args ∧ laidMetH Tryd.prog laidL w) ∧ sizedMet enc Tryd.prog Tryd.f3 (OpenSpec.ofChange Rows.shapeTurnKeepsSidesSpec) false w args) (Rows.shapeTurnKeepsSidesSpec.post enc Tryd.prog Tryd.f3 false true false false) :=
  law_lift_laid (C := Tryd.checked) (tb := 4) (laid := laidL) (by kernel_rfl) started (by kernel_rfl) Tryd.func3 rfl
    (fun ds h => match ds, h with | [_, _], _ => rfl) rfl Tryd.underlying4 (by kernel_rfl) (by kernel_rfl)
    (ChangeSpec.witness_shaped (enc := enc) (C := Tryd.checked) (os := os) (X := fun w _ => laidMetH Tryd.prog laidL w) false (World.doorLaid Tryd.prog 400 os) #[.agg #[.int .i64 0, .int .i64 0, .int .i64 0, .int .i64 0, .int .i64 0, .int .i64 0, .int .i64 0, .int .i64 0, .int .i64 0, .int .i64 0, .string ⟨#[]⟩, .string ⟨#[]⟩], .int .i64 0] 8 rfl (World.shaped_of_RefB (by kernel_rfl) (by kernel_rfl)) (by kernel_rfl) (by kernel_rfl) (by kernel_rfl) (door_met os _))
    walked

theorem said : Rows.ShapeTurnKeepsSidesSaid :=
  OpenClaim.holds_of_wide 3 Tryd.f3 rfl rfl rfl rfl rfl rfl rfl ⟨rfl, rfl, rfl, rfl, rfl⟩ rfl rfl rfl rfl rfl (by kernel_rfl) Tryd.func3 (by kernel_rfl)
    (of_decide_eq_true (by kernel_rfl)) (by unfold Func.isWrapper; first | (rw [if_pos (by decide +kernel)]; kernel_rfl) | (rw [if_neg (by decide +kernel)]; exact ⟨rfl, rfl⟩))
    (fun os started H enc _ => lifted os started H enc)

/-- THE STATEMENT: the tied card -/
theorem proved : Rows.ShapeTurnKeepsSidesCardSaid :=
  Claim7.holds_tied_plain_at .later [] [.data] true (true, "0033d5c4f99aef9b82c08da9c1357e50926af6b85babfc5968ccf75c8792d8fc") false
    said (fun _ h => by cases h) (by kernel_rfl) (fun _ h => by cases h) shapeTurnKeepsSides_row_tie rfl ⟨rfl, rfl⟩ (by kernel_rfl) rfl
    (fun f fn hf hfn => by
      obtain rfl : f = 3 := Option.some.inj ((show Tryd.prog.funcNamed "chancery/chancerykeep3.ShapeTurnKeepsSides" = some 3 by kernel_rfl).symm.trans hf) |>.symm
      obtain rfl : fn = Tryd.f3 := (Option.some.inj (Tryd.func3.symm.trans hfn)).symm
      exact ⟨by kernel_rfl, fun j t ht => by
        have hm : t ∈ Tryd.f3.params.toList := by simpa using Array.mem_of_getElem? ht
        have hall : (Tryd.f3.params.toList.all fun u => !Tryd.prog.wantsStandIn u) = true := by kernel_rfl
        exact (show Tryd.prog.wantsStandIn t = false by simpa using List.all_eq_true.1 hall t hm)⟩)
    (by kernel_rfl)
#print axioms proved
end Go.Proofs.YtnmikhmbnpiadaaDoor.ShapeTurnKeepsSidesDone
