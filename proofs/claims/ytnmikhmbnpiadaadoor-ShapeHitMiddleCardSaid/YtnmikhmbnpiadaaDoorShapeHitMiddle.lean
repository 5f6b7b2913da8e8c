/- The middle of a shape that is not turned is in it, or in one that is ahead of it; a point outside of all bounds hits nothing. No condition. -/
import Derived.Test.YtnmikhmbnpiadaaDoorShapeHitPlain
import Derived.Test.YtnmikhmbnpiadaaDoorShapeTab
import Derived.Test.YtnmikhmbnpiadaaDoorTie
namespace Go.Proofs.YtnmikhmbnpiadaaDoor.ShapeHitMiddleDone
open Go.ChangeShapes Go.WideShapes Go.ChangeAt Go.RowKit Go.Frm Wi Shp

set_option maxRecDepth 100000 in
set_option maxHeartbeats 8000000 in
theorem walk (A : Option Addr) (n c : Nat) (G : Nat → Nat → Int) (T : Nat → Nat → ByteArray) (which : Int) (w : World) (hq : TabQ w) (hr : RdF w A n 12 (shV G T)) (hn : n ≤ 9223372036854775807) (hwf : ∀ i j, i < n → j < 10 → (Lit.int .i64 (G i j)).wf = true) (hwt : (Lit.int .i64 which).wf = true) :
    Calls Tryd.prog 5 #[.slice A n c, .int .i64 which] w fun e w' => e = .returned (.bool true) ∧ Below w.heap.size w w' := by
  have Hq := hide hq
  have Hsh := hide (fun wx (hx : RdF wx A n 12 (shV G T)) => shapes_ok A n c G T false wx hx hn hwf)
  clear hq hwf
  go_enter Tryd.func5, Tryd.ntmps5
  go_wp2_with fail
  refine (keptTurned_ok w Hq.out).mono ?_
  rintro e w1 ⟨rfl, hb1⟩
  have hr1 := hr.below hb1
  go_wp2_with fail
  refine (Hsh.out w1 hr1).mono ?_
  rintro e w2 ⟨A2, c2, rfl, hown, hb2⟩
  have hbl2 := hb1.trans (hb2.mono hb1.size)
  have hm10 : min n 10 ≤ 10 := Nat.min_le_right _ _
  generalize min n 10 = m at *
  have hb1s := hb1.size
  clear Hsh hr hr1 hb1 hb2 hn
  have hok := made_ok G false hm10
  have Hsm := hide (show ∀ i, i < m → (shG G false i 3).natAbs ≤ 2000 ∧ (shG G false i 4).natAbs ≤ 2000 from fun i _ => ⟨by have := wi_bd (G i 3) (show (-2000 : Int) ≤ 2000 by omega); show (wi (G i 3) (-2000) 2000).natAbs ≤ 2000; omega, by have := wi_bd (G i 4) (show (-2000 : Int) ≤ 2000 by omega); show (wi (G i 4) (-2000) 2000).natAbs ≤ 2000; omega⟩)
  have Hwh := hide (show ∀ i, i < m → (0 ≤ shG G false i 5 ∧ shG G false i 5 ≤ 1500) ∧ (0 ≤ shG G false i 6 ∧ shG G false i 6 ≤ 1500) from fun i _ => ⟨wi_bd (G i 5) (show (0 : Int) ≤ 1500 by omega), wi_bd (G i 6) (show (0 : Int) ≤ 1500 by omega)⟩)
  have hz : ∀ i, i < m → shG G false i 7 = 0 := fun i _ => rfl
  have hit : ∀ i, shG G false i 0 = (i : Int) + 1 := fun i => rfl
  generalize shG G false = G2 at *
  generalize shT T = T2 at *
  by_cases hm0 : m = 0
  · subst hm0
    go_wp2_with fail
    go_ret
    exact ⟨rfl, hbl2⟩
  · have d0 : ((m : Int) == 0) = false := by simp; omega
    have hkb := wi_bd which (show (0 : Int) ≤ (m : Int) - 1 by omega)
    have Hw := hide (fun wx => within_any which 0 ((m : Int) - 1) wx hwt (by omega) (by omega) (by omega))
    obtain ⟨k, hk⟩ : ∃ k : Nat, (k : Int) = wi which 0 ((m : Int) - 1) := ⟨(wi which 0 ((m : Int) - 1)).toNat, by omega⟩
    rw [← hk] at Hw
    have hkm : k < m := by omega
    clear hk hkb
    obtain ⟨g2, rfl, hg2a, hg2b, hc2, hz2⟩ := own_addr hown (by omega)
    have hrl := RdF.of_own hown
    obtain ⟨Dx, Dy, hmv⟩ := moves hok
    have hsm := Hsm.out
    have hfar : LastHit G2 (hitB G2 Dx Dy (-900000) 900000) m 0 := .inr ⟨fun j hj => by
      have h1 := mv_small hsm (hmv j hj).1 hj
      have h2 := hsm j hj
      unfold hitB
      rw [far_out G2 j _ _ (by omega), Bool.and_false], rfl⟩
    have hqw2 := hide (Hq.out.below hbl2)
    have Hfar := hide (Hit_ok (some ⟨g2, 0, none⟩) m c2 G2 T2 Dx Dy (-900000) 900000 0 w2 hqw2.out hok hz hmv hrl hc2 (by omega) (by omega) (by omega) (by omega) hfar)
    unfold ptc at Hfar
    obtain ⟨hmk, _, _⟩ := hmv k hkm
    have hdk := mv_small hsm hmk hkm
    have hout := mv_out hok hz hmk hkm
    obtain ⟨X1, Y1⟩ := hsm k hkm
    obtain ⟨⟨V1, V2⟩, ⟨W1, W2⟩⟩ := Hwh.out k hkm
    have hca : CornersAt G2 m k (fun i => crX G2 k i + Dx k) (fun i => crY G2 k i + Dy k) := fun i hi => ⟨k, by
      have bx : (crX G2 k i).natAbs ≤ 4000 := by unfold crX; split <;> omega
      have bY : (crY G2 k i).natAbs ≤ 4000 := by unfold crY; split <;> omega
      have h := hout (crX G2 k i) (crY G2 k i) (by omega) (by omega)
      unfold ctX ctY
      rw [hz k hkm, (tu_zero _ _ _ _).1, (tu_zero _ _ _ _).2]
      exact h⟩
    obtain ⟨mb1, mb2, mb3, mb4⟩ := mid_bounds G2 k (Dx k) (Dy k) V1 W1
    have Hbo := hide (fun wx (qx : TabQ wx) (rx : RdF wx (some ⟨g2, 0, none⟩) m 12 (shV G2 T2)) => by
      have h := Bounds_ok (some ⟨g2, 0, none⟩) m c2 k G2 T2 _ _ (G2 k 0) wx qx hok rx hc2 hkm rfl hca
      rw [mb1, mb2, mb3, mb4] at h
      exact h)
    obtain ⟨r, hr⟩ := lastHit G2 (hitB G2 Dx Dy (G2 k 3 + Dx k + G2 k 5 / 2) (G2 k 4 + Dy k + G2 k 6 / 2)) m
    have Hmid := hide (fun wx (qx : TabQ wx) (rx : RdF wx (some ⟨g2, 0, none⟩) m 12 (shV G2 T2)) => Hit_ok (some ⟨g2, 0, none⟩) m c2 G2 T2 Dx Dy (G2 k 3 + Dx k + G2 k 5 / 2) (G2 k 4 + Dy k + G2 k 6 / 2) r wx qx hok hz hmv rx hc2 (by omega) (by omega) (by omega) (by omega) hr)
    unfold ptc at Hmid
    have hge : Hid ((G2 k 2 ≠ 5) → (G2 k 2 ≠ 6) → (G2 k 2 = 1 → G2 k 5 ≠ 1 ∧ G2 k 6 ≠ 1) → G2 k 0 ≤ r) := fun h5 h6 h1 => by
      have hk2 : hitB G2 Dx Dy (G2 k 3 + Dx k + G2 k 5 / 2) (G2 k 4 + Dy k + G2 k 6 / 2) k = true := by
        unfold hitB
        rw [show G2 k 3 + Dx k + G2 k 5 / 2 - Dx k = G2 k 3 + G2 k 5 / 2 by omega, show G2 k 4 + Dy k + G2 k 6 / 2 - Dy k = G2 k 4 + G2 k 6 / 2 by omega, mid_in G2 k ⟨V1, V2⟩ ⟨W1, W2⟩ h1]
        simp [h5, h6]
      rcases hr with ⟨k', a1, a2, a3, a4⟩ | ⟨a1, _⟩
      · rw [a4, hit, hit]
        rcases Nat.lt_or_ge k' k with h | h
        · have := a3 k h hkm
          rw [hk2] at this
          cases this
        · omega
      · have := a1 k hkm
        rw [hk2] at this
        cases this
    have Hit := hide hit
    have Hkb := hide (show (Dx k).natAbs ≤ 20000 ∧ (Dy k).natAbs ≤ 20000 ∧ (G2 k 3).natAbs ≤ 2000 ∧ (G2 k 4).natAbs ≤ 2000 ∧ G2 k 5 ≤ 1500 ∧ G2 k 6 ≤ 1500 ∧ 0 ≤ G2 k 5 ∧ 0 ≤ G2 k 6 from ⟨by omega, by omega, X1, Y1, V2, W2, V1, W1⟩)
    have hkm2 : (k : Int) < (m : Int) := by omega
    clear hok hit hz hmv hfar hmk hdk hout hca mb1 mb2 mb3 mb4 hr hz2 hsm
    go_wp2_with fail
    refine Hfar.out.mono ?_
    rintro e w3 ⟨rfl, hb3⟩
    have hbl3 := hbl2.trans (hb3.mono hbl2.size)
    have hr3 := hrl.below hb3
    obtain ⟨b', off', hA, k0, k1, k2, k3, k4, k5, k6, k7, k8, k9, k10, k11⟩ := cells12 hr3 hkm
    injection hA with hA
    injection hA with hA1 hA2
    subst hA1 hA2
    simp only [Nat.zero_add] at k0 k1 k2 k3 k4 k5 k6 k7 k8 k9 k10 k11
    obtain ⟨x0, hx0⟩ : ∃ x, x = G2 k 3 + Dx k := ⟨_, rfl⟩
    obtain ⟨y0, hy0⟩ : ∃ x, x = G2 k 4 + Dy k := ⟨_, rfl⟩
    obtain ⟨x1, hx1⟩ : ∃ x, x = G2 k 3 + G2 k 5 + Dx k := ⟨_, rfl⟩
    obtain ⟨y1, hy1⟩ : ∃ x, x = G2 k 4 + G2 k 6 + Dy k := ⟨_, rfl⟩
    rw [← hx0, ← hy0] at Hmid
    rw [← hx0, ← hy0, ← hx1, ← hy1] at Hbo
    have ex : x1 - x0 = G2 k 5 := by omega
    have ey : y1 - y0 = G2 k 6 := by omega
    have bb : -100000 ≤ x0 ∧ x0 ≤ 100000 ∧ -100000 ≤ y0 ∧ y0 ≤ 100000 ∧ -100000 ≤ x1 ∧ x1 ≤ 100000 ∧ -100000 ≤ y1 ∧ y1 ≤ 100000 := by have := Hkb.out; omega
    obtain ⟨bb1, bb2, bb3, bb4, bb5, bb6, bb7, bb8⟩ := bb
    have Ex := hide ex
    have Ey := hide ey
    clear hx0 hy0 hx1 hy1 ex ey
    go_upto_region 10 with (go_at_call 11; (with_reducible refine (Hw.out _).mono ?_); rintro e w4 ⟨rfl, rfl⟩)
    have bx : Blk (w3.alloc (.cells #[.int .i64 (G2 k 0), .int .i64 (G2 k 1), .int .i64 (G2 k 2), .int .i64 (G2 k 3), .int .i64 (G2 k 4), .int .i64 (G2 k 5), .int .i64 (G2 k 6), .int .i64 (G2 k 7), .int .i64 (G2 k 8), .int .i64 (G2 k 9), .string (T2 k 10), .string (T2 k 11)] 23)) w3.heap.size 23 (shC G2 T2 k) := Blk.new w3 _ _
    have hbl5 := hbl3.alloc hbl3.size (.cells #[.int .i64 (G2 k 0), .int .i64 (G2 k 1), .int .i64 (G2 k 2), .int .i64 (G2 k 3), .int .i64 (G2 k 4), .int .i64 (G2 k 5), .int .i64 (G2 k 6), .int .i64 (G2 k 7), .int .i64 (G2 k 8), .int .i64 (G2 k 9), .string (T2 k 10), .string (T2 k 11)] 23)
    have hr5 := hr3.alloc (.cells #[.int .i64 (G2 k 0), .int .i64 (G2 k 1), .int .i64 (G2 k 2), .int .i64 (G2 k 3), .int .i64 (G2 k 4), .int .i64 (G2 k 5), .int .i64 (G2 k 6), .int .i64 (G2 k 7), .int .i64 (G2 k 8), .int .i64 (G2 k 9), .string (T2 k 10), .string (T2 k 11)] 23)
    clear k0 k1 k2 k3 k4 k5 k6 k7 k8 k9 k10 k11 hbl3 hr3 hb3
    generalize w3.alloc (.cells #[.int .i64 (G2 k 0), .int .i64 (G2 k 1), .int .i64 (G2 k 2), .int .i64 (G2 k 3), .int .i64 (G2 k 4), .int .i64 (G2 k 5), .int .i64 (G2 k 6), .int .i64 (G2 k 7), .int .i64 (G2 k 8), .int .i64 (G2 k 9), .string (T2 k 10), .string (T2 k 11)] 23) = w5 at *
    generalize w3.heap.size = g at *
    have p0 : w5.cell? ⟨g, 0, none⟩ = some (.int .i64 (G2 k 0)) := bx.cell 0
    have p2 : w5.cell? ⟨g, 2, none⟩ = some (.int .i64 (G2 k 2)) := bx.cell 2
    have p5 : w5.cell? ⟨g, 5, none⟩ = some (.int .i64 (G2 k 5)) := bx.cell 5
    have p6 : w5.cell? ⟨g, 6, none⟩ = some (.int .i64 (G2 k 6)) := bx.cell 6
    by_cases c5 : G2 k 2 = 5
    · have d5 : (G2 k 2 == 5) = true := by simpa using c5
      clear c5 hge
      go_wp2_with fail
      go_ret
      exact ⟨rfl, hbl5⟩
    have d5 : (G2 k 2 == 5) = false := by simpa using c5
    by_cases c6 : G2 k 2 = 6
    · have d6 : (G2 k 2 == 6) = true := by simpa using c6
      clear c5 c6 hge
      go_wp2_with fail
      go_ret
      exact ⟨rfl, hbl5⟩
    have d6 : (G2 k 2 == 6) = false := by simpa using c6
    by_cases c1 : G2 k 2 = 1
    · have d1 : (G2 k 2 == 1) = true := by simpa using c1
      by_cases cw : G2 k 5 = 1
      · have dw : (G2 k 5 == 1) = true := by simpa using cw
        clear c5 c6 c1 cw hge
        go_wp2_with fail
        go_ret
        exact ⟨rfl, hbl5⟩
      have dw : (G2 k 5 == 1) = false := by simpa using cw
      by_cases ch : G2 k 6 = 1
      · have dh : (G2 k 6 == 1) = true := by simpa using ch
        clear c5 c6 c1 cw ch hge
        go_wp2_with fail
        go_ret
        exact ⟨rfl, hbl5⟩
      have dh : (G2 k 6 == 1) = false := by simpa using ch
      have hrge := hge.out c5 c6 (fun _ => ⟨cw, ch⟩)
      clear c5 c6 c1 cw ch hge
      go_upto_region 12 with fail
      have dr : decide (r ≥ G2 k 0) = true := by simpa using hrge
      go_wp2_with fail
      refine (Hbo.out w5 (Hq.out.below hbl5) hr5).mono ?_
      rintro e w6 ⟨rfl, hb6⟩
      have bx6 := bx.below hb6 bx.lt
      have hbl6 := hbl5.trans (hb6.mono hbl5.size)
      have hr6 := hr5.below hb6
      clear p0 p2 p5 p6 bx hbl5 hr5 hb6
      have u0 : w6.cell? ⟨g, 0, none⟩ = some (.int .i64 (G2 k 0)) := bx6.cell 0
      go_upto_region 13 with fail
      have bf : Blk (w6.alloc (.cells #[.int .i64 x0, .int .i64 y0, .int .i64 x1, .int .i64 y1] 41)) w6.heap.size 41 #[.int .i64 x0, .int .i64 y0, .int .i64 x1, .int .i64 y1] := Blk.new w6 _ _
      have bx7 := bx6.alloc (.cells #[.int .i64 x0, .int .i64 y0, .int .i64 x1, .int .i64 y1] 41)
      have hbl7 := hbl6.alloc hbl6.size (.cells #[.int .i64 x0, .int .i64 y0, .int .i64 x1, .int .i64 y1] 41)
      have hr7 := hr6.alloc (.cells #[.int .i64 x0, .int .i64 y0, .int .i64 x1, .int .i64 y1] 41)
      clear u0 bx6 hbl6 hr6
      generalize w6.alloc (.cells #[.int .i64 x0, .int .i64 y0, .int .i64 x1, .int .i64 y1] 41) = w7 at *
      generalize w6.heap.size = gf at *
      have f0 : w7.cell? ⟨gf, 0, none⟩ = some (.int .i64 x0) := bf.cell 0
      have f1 : w7.cell? ⟨gf, 1, none⟩ = some (.int .i64 y0) := bf.cell 1
      have f2 : w7.cell? ⟨gf, 2, none⟩ = some (.int .i64 x1) := bf.cell 2
      have f3 : w7.cell? ⟨gf, 3, none⟩ = some (.int .i64 y1) := bf.cell 3
      have ex := Ex.out
      have ey := Ey.out
      have vb1 := Hkb.out.2.2.2.2.1
      have vb2 := Hkb.out.2.2.2.2.2.1
      have vb3 := Hkb.out.2.2.2.2.2.2.1
      have vb4 := Hkb.out.2.2.2.2.2.2.2
      go_wp2_with fail
      refine (Hmid.out w7 (Hq.out.below hbl7) hr7).mono ?_
      rintro e w8 ⟨rfl, hb8⟩
      have bx8 := bx7.below hb8 bx7.lt
      have hbl8 := hbl7.trans (hb8.mono hbl7.size)
      have u0 : w8.cell? ⟨g, 0, none⟩ = some (.int .i64 (G2 k 0)) := bx8.cell 0
      clear f0 f1 f2 f3 ex ey bf bx7 hb8
      go_wp2_with fail
      go_ret
      exact ⟨rfl, hbl8⟩
    · have d1 : (G2 k 2 == 1) = false := by simpa using c1
      have hrge := hge.out c5 c6 (fun h => absurd h c1)
      clear c5 c6 c1 hge
      go_upto_region 12 with fail
      have dr : decide (r ≥ G2 k 0) = true := by simpa using hrge
      go_wp2_with fail
      refine (Hbo.out w5 (Hq.out.below hbl5) hr5).mono ?_
      rintro e w6 ⟨rfl, hb6⟩
      have bx6 := bx.below hb6 bx.lt
      have hbl6 := hbl5.trans (hb6.mono hbl5.size)
      have hr6 := hr5.below hb6
      clear p0 p2 p5 p6 bx hbl5 hr5 hb6
      have u0 : w6.cell? ⟨g, 0, none⟩ = some (.int .i64 (G2 k 0)) := bx6.cell 0
      go_upto_region 13 with fail
      have bf : Blk (w6.alloc (.cells #[.int .i64 x0, .int .i64 y0, .int .i64 x1, .int .i64 y1] 41)) w6.heap.size 41 #[.int .i64 x0, .int .i64 y0, .int .i64 x1, .int .i64 y1] := Blk.new w6 _ _
      have bx7 := bx6.alloc (.cells #[.int .i64 x0, .int .i64 y0, .int .i64 x1, .int .i64 y1] 41)
      have hbl7 := hbl6.alloc hbl6.size (.cells #[.int .i64 x0, .int .i64 y0, .int .i64 x1, .int .i64 y1] 41)
      have hr7 := hr6.alloc (.cells #[.int .i64 x0, .int .i64 y0, .int .i64 x1, .int .i64 y1] 41)
      clear u0 bx6 hbl6 hr6
      generalize w6.alloc (.cells #[.int .i64 x0, .int .i64 y0, .int .i64 x1, .int .i64 y1] 41) = w7 at *
      generalize w6.heap.size = gf at *
      have f0 : w7.cell? ⟨gf, 0, none⟩ = some (.int .i64 x0) := bf.cell 0
      have f1 : w7.cell? ⟨gf, 1, none⟩ = some (.int .i64 y0) := bf.cell 1
      have f2 : w7.cell? ⟨gf, 2, none⟩ = some (.int .i64 x1) := bf.cell 2
      have f3 : w7.cell? ⟨gf, 3, none⟩ = some (.int .i64 y1) := bf.cell 3
      have ex := Ex.out
      have ey := Ey.out
      have vb1 := Hkb.out.2.2.2.2.1
      have vb2 := Hkb.out.2.2.2.2.2.1
      have vb3 := Hkb.out.2.2.2.2.2.2.1
      have vb4 := Hkb.out.2.2.2.2.2.2.2
      go_wp2_with fail
      refine (Hmid.out w7 (Hq.out.below hbl7) hr7).mono ?_
      rintro e w8 ⟨rfl, hb8⟩
      have bx8 := bx7.below hb8 bx7.lt
      have hbl8 := hbl7.trans (hb8.mono hbl7.size)
      have u0 : w8.cell? ⟨g, 0, none⟩ = some (.int .i64 (G2 k 0)) := bx8.cell 0
      clear f0 f1 f2 f3 ex ey bf bx7 hb8
      go_wp2_with fail
      go_ret
      exact ⟨rfl, hbl8⟩

theorem walked : WalkedL Tryd.checked.prog 5 Tryd.f5 [("chancery/shape.quarter", Rows.laid_chancery_shape_quarter)] := by
  intro H enc W args ds ps hval hA hL
  have ht : TabQ W := tabQ_of ⟨_, _, rfl, rfl⟩ (by kernel_rfl) hL
  rw [Tryd.params5] at hA hval
  obtain ⟨v0, l0, d0, m0, p0, q0, e0, _, h0, k0⟩ := Frm.trodAll_cons hA
  obtain ⟨v1, l1, d1, m1, p1, q1, rfl, _, h1, k1⟩ := Frm.trodAll_cons k0
  obtain rfl := Frm.trodAll_nil k1
  obtain rfl : args = #[v0, v1] := by cases args; simp_all
  obtain ⟨A, n, c, G, T, rfl, hn, hr, hwf⟩ := shapes_arg (hval 0 _ _ rfl rfl) h0
  obtain ⟨x, rfl, _, _, wx⟩ := open_int Tryd.underlying3 (hval 1 _ _ rfl rfl) h1
  exact walk A n c G T x W ht hr hn hwf wx

def laidL : List (String × DataW Unit) := [("chancery/shape.quarter", Rows.laid_chancery_shape_quarter)]
theorem door_met (os : Os) (args : Array Value) : laidMetH Tryd.prog laidL ((World.doorLaid Tryd.prog 400 os).forCall (fun _ _ => 0) ⟨#[], args, []⟩).memory :=
  laidMetH_of_parts3 (fuel := 8) (laidMet_of_run' 8 (by kernel_rfl) (by kernel_rfl)) (by kernel_rfl) (by kernel_rfl)

set_option maxRecDepth 100000 in
theorem lifted (os : Os) (started : os.Started) (H : Type) (enc : TypeId × Value → H) :
    ReturnsInHanded {} Tryd.checked os 5 .any (fun w args => (Rows.shapeHitMiddleSpec.pre enc Tryd.prog Tryd.f5 [] false w args ∧ laidMetH Tryd.prog laidL w) ∧ sizedMet enc Tryd.prog Tryd.f5 (OpenSpec.ofChange Rows.shapeHitMiddleSpec) false w args) (Rows.shapeHitMiddleSpec.post enc Tryd.prog Tryd.f5 false true false false) :=
  law_lift_laid (C := Tryd.checked) (tb := 4) (laid := laidL) (by kernel_rfl) started (by kernel_rfl) Tryd.func5 rfl
    (fun ds h => match ds, h with | [_, _], _ => rfl) rfl Tryd.underlying4 (by kernel_rfl) (by kernel_rfl)
    (ChangeSpec.witness_shaped (enc := enc) (C := Tryd.checked) (os := os) (X := fun w _ => laidMetH Tryd.prog laidL w) false (World.doorLaid Tryd.prog 400 os) #[.slice none 0 0, .int .i64 0] 8 rfl (World.shaped_of_RefB (by kernel_rfl) (by kernel_rfl)) (by kernel_rfl) (by kernel_rfl) (by kernel_rfl) (door_met os _))
    walked

theorem said : Rows.ShapeHitMiddleSaid :=
  OpenClaim.holds_of_wide 5 Tryd.f5 rfl rfl rfl rfl rfl rfl rfl ⟨rfl, rfl, rfl, rfl, rfl⟩ rfl rfl rfl rfl rfl (by kernel_rfl) Tryd.func5 (by kernel_rfl)
    (of_decide_eq_true (by kernel_rfl)) (by unfold Func.isWrapper; first | (rw [if_pos (by decide +kernel)]; kernel_rfl) | (rw [if_neg (by decide +kernel)]; exact ⟨rfl, rfl⟩))
    (fun os started H enc _ => lifted os started H enc)

/-- THE STATEMENT: the tied card -/
theorem proved : Rows.ShapeHitMiddleCardSaid :=
  Claim7.holds_tied_plain_at .later [] [.data] true (true, "0033d5c4f99aef9b82c08da9c1357e50926af6b85babfc5968ccf75c8792d8fc") false
    said (fun _ h => by cases h) (by kernel_rfl) (fun _ h => by cases h) shapeHitMiddle_row_tie rfl ⟨rfl, rfl⟩ (by kernel_rfl) rfl
    (fun f fn hf hfn => by
      obtain rfl : f = 5 := Option.some.inj ((show Tryd.prog.funcNamed "chancery/chancerykeep3.ShapeHitMiddle" = some 5 by kernel_rfl).symm.trans hf) |>.symm
      obtain rfl : fn = Tryd.f5 := (Option.some.inj (Tryd.func5.symm.trans hfn)).symm
      exact ⟨by kernel_rfl, fun j t ht => by
        have hm : t ∈ Tryd.f5.params.toList := by simpa using Array.mem_of_getElem? ht
        have hall : (Tryd.f5.params.toList.all fun u => !Tryd.prog.wantsStandIn u) = true := by kernel_rfl
        exact (show Tryd.prog.wantsStandIn t = false by simpa using List.all_eq_true.1 hall t hm)⟩)
    (by kernel_rfl)
#print axioms proved
end Go.Proofs.YtnmikhmbnpiadaaDoor.ShapeHitMiddleDone
