/- Four quarter turns leave the corners of a shape where they are, and a half turn exchanges opposite ones. No condition. -/
import Derived.Test.YtnmikhmbnpiadaaDoorShapeQuarterPlain
import Derived.Test.YtnmikhmbnpiadaaDoorShapeClone
import Derived.Test.YtnmikhmbnpiadaaDoorShapeTab
import Derived.Test.YtnmikhmbnpiadaaDoorTie
import Derived.Test.YtnmikhmbnpiadaaDoorShapePt
namespace Go.Proofs.YtnmikhmbnpiadaaDoor.ShapeQuarterTurnsDone
open Go.ChangeShapes Go.WideShapes Go.ChangeAt Go.RowKit Go.Frm Wi Shp

def q8 (a b c d e f g h : Int) : Array Value := #[.int .i64 a, .int .i64 b, .int .i64 c, .int .i64 d, .int .i64 e, .int .i64 f, .int .i64 g, .int .i64 h]
theorem three_pts {G : Nat → Nat → Int} {n k : Nat} (ho : ShOk G n) (hk : k < n) (dx dy : Int) (hx : dx.natAbs ≤ 20000000) (hy : dy.natAbs ≤ 20000000) : ∃ xa xb ya yb ua ub va vb : Int,
    ptC4 (fun i => crX G k i + dx) (fun i => crY G k i + dy) = q8 xa ya xb ya xb yb xa yb ∧ ptC4 (fun i => crX G k ((i + 2) % 4) + dx) (fun i => crY G k ((i + 2) % 4) + dy) = q8 xb yb xa yb xa ya xb ya ∧
    ptC4 (fun i => (2 * G k 3 + G k 5 + (2 * G k 4 + G k 6) - 2 * crY G k i + 1) / 2 + dx) (fun i => (2 * G k 4 + G k 6 - (2 * G k 3 + G k 5) + 2 * crX G k i + 1) / 2 + dy) = q8 ua va ua vb ub vb ub va ∧
    ub - ua = -(yb - ya) ∧ vb - va = xb - xa ∧ (xa.natAbs ≤ 100000000 ∧ xb.natAbs ≤ 100000000 ∧ ya.natAbs ≤ 100000000 ∧ yb.natAbs ≤ 100000000) ∧ ua.natAbs ≤ 100000000 ∧ ub.natAbs ≤ 100000000 ∧ va.natAbs ≤ 100000000 ∧ vb.natAbs ≤ 100000000 := by
  obtain ⟨⟨x1, x2⟩, ⟨y1, y2⟩⟩ := ho.xy k hk
  obtain ⟨⟨v1, v2⟩, ⟨w1, w2⟩⟩ := ho.wh k hk
  refine ⟨G k 3 + dx, G k 3 + G k 5 + dx, G k 4 + dy, G k 4 + G k 6 + dy, (2 * G k 3 + G k 5 + (2 * G k 4 + G k 6) - 2 * G k 4 + 1) / 2 + dx, (2 * G k 3 + G k 5 + (2 * G k 4 + G k 6) - 2 * (G k 4 + G k 6) + 1) / 2 + dx,
    (2 * G k 4 + G k 6 - (2 * G k 3 + G k 5) + 2 * G k 3 + 1) / 2 + dy, (2 * G k 4 + G k 6 - (2 * G k 3 + G k 5) + 2 * (G k 3 + G k 5) + 1) / 2 + dy, by simp [ptC4, crX, crY, q8], by simp [ptC4, crX, crY, q8], by simp [ptC4, crX, crY, q8], ?_, ?_, ⟨?_, ?_, ?_, ?_⟩, ?_, ?_, ?_, ?_⟩ <;> omega

set_option maxRecDepth 100000 in
set_option maxHeartbeats 40000000 in
theorem walk (A : Option Addr) (n c : Nat) (G : Nat → Nat → Int) (T : Nat → Nat → ByteArray) (which : Int) (w : World) (hq : TabQ w) (hr : RdF w A n 12 (shV G T)) (hn : n ≤ 9223372036854775807) (hwf : ∀ i j, i < n → j < 10 → (Lit.int .i64 (G i j)).wf = true) (hwt : (Lit.int .i64 which).wf = true) :
    Calls Tryd.prog 4 #[.slice A n c, .int .i64 which] w fun e w' => e = .returned (.bool true) ∧ Below w.heap.size w w' := by
  have Hq := hide hq
  have Hsh := hide (fun wx (hx : RdF wx A n 12 (shV G T)) => shapes_ok A n c G T false wx hx hn hwf)
  clear hq hwf
  go_enter Tryd.func4, Tryd.ntmps4
  go_wp2_with fail
  refine (keptTurned_ok w Hq.out).mono ?_
  rintro e w1 ⟨rfl, hb1⟩
  have hr1 := hr.below hb1
  go_wp2_with fail
  refine (Hsh.out w1 hr1).mono ?_
  rintro e w2 ⟨A2, c2, rfl, hown, hb2⟩
  have hbl2 := hb1.trans (hb2.mono hb1.size)
  have hm10 : min n 10 ≤ 10 := Nat.min_le_right _ _
  generalize min n 10 = m at *
  have hb1s := hb1.size
  clear Hsh hr hr1 hb1 hb2 hn
  have hok := made_ok G false hm10
  have hz : ∀ i, i < m → shG G false i 7 = 0 := fun i _ => rfl
  have hit : ∀ i, shG G false i 0 = (i : Int) + 1 := fun i => rfl
  generalize shG G false = G2 at *
  generalize shT T = T2 at *
  by_cases hm0 : m = 0
  · subst hm0
    go_wp2_with fail
    go_ret
    exact ⟨rfl, hbl2⟩
  · have d0 : ((m : Int) == 0) = false := by simp; omega
    have hkb := wi_bd which (show (0 : Int) ≤ (m : Int) - 1 by omega)
    have Hw := hide (fun wx => within_any which 0 ((m : Int) - 1) wx hwt (by omega) (by omega) (by omega))
    obtain ⟨k, hk⟩ : ∃ k : Nat, (k : Int) = wi which 0 ((m : Int) - 1) := ⟨(wi which 0 ((m : Int) - 1)).toNat, by omega⟩
    rw [← hk] at Hw
    have hkm : k < m := by omega
    clear hk hkb
    obtain ⟨g2, rfl, hg2a, hg2b, hc2, hz2⟩ := own_addr hown (by omega)
    have hrl := RdF.of_own hown
    obtain ⟨dx, dy, hdx, hdy, hca, hcb, hcc⟩ := three_corners hok hz hkm
    obtain ⟨⟨X1, X2⟩, ⟨Y1, Y2⟩⟩ := hok.xy k hkm
    obtain ⟨⟨V1, V2⟩, ⟨W1, W2⟩⟩ := hok.wh k hkm
    have hqw2 := hide (Hq.out.below hbl2)
    have Hca := hide (Corners_ok (some ⟨g2, 0, none⟩) m c2 k G2 T2 _ _ ((k : Int) + 1) w2 hqw2.out hok hrl hc2 hkm (hit k) hca)
    have H8 := hide (three_pts hok hkm dx dy hdx hdy)
    have Hok := hide hok
    have Hit := hide hit
    have Hcb := hide hcb
    have Hcc := hide hcc
    have hkm2 : (k : Int) < (m : Int) := by omega
    clear hok hit hcb hcc hca hz hrl hz2
    go_wp2_with (go_at_call 11; (with_reducible refine (Hw.out _).mono ?_); rintro e w3 ⟨rfl, rfl⟩)
    refine Hca.out.mono ?_
    rintro e w4 ⟨ga, rfl, hga, bka, hb4⟩
    have hbl4 := hbl2.trans (hb4.mono hbl2.size)
    have own4 := own_below hown hb4
    have hwg : w.heap.size ≤ g2 := Nat.le_trans hb1s hg2a
    have hs24 := hb4.size
    clear Hca hb4 hown
    have Hcl := hide (clone_ok m G2 T2 (some ⟨g2, 0, none⟩) c2 _ w4 (by omega) own4)
    go_wp2_with fail
    refine Hcl.out.mono ?_
    rintro e w5 ⟨A5, c5, rfl, own5, hb5⟩
    have hbl5 := hbl4.trans (hb5.mono hbl4.size)
    have own5l := own_below own4 hb5
    have bka5 := bka.below hb5 bka.lt
    obtain ⟨g5, rfl, hg5a, hg5b, hc5, hz5⟩ := own_addr own5 (by omega)
    obtain ⟨b', off', hA, k0, k1, k2, k3, k4, k5, k6, k7, k8, k9, k10, k11⟩ := cells12 (RdF.of_own own5) hkm
    injection hA with hA
    injection hA with hA1 hA2
    subst hA1 hA2
    simp only [Nat.zero_add] at k7
    have z7 := hz5 (k * 12 + 7)
    have hrs := rdF_updT (t := 1800) (RdF.of_own own5) hkm
    rw [Nat.zero_add] at hrs
    have hgal := bka.lt
    have hne1 : g2 ≠ g5 := by omega
    have hne2 : ga ≠ g5 := by omega
    have own6l := ownsRow_setCell_other own5l (a := ⟨g5, k * 12 + 7, none⟩) (by simpa [Value.ownBlock] using hne1) (.int .i64 1800)
    have bka6 := bka5.far (p := ⟨g5, k * 12 + 7, none⟩) hne2 (.int .i64 1800)
    have hbl6 := hbl5.setCell (p := ⟨g5, k * 12 + 7, none⟩) (by show w.heap.size ≤ g5; omega) (.int .i64 1800)
    have hs6 : (w5.setCell ⟨g5, k * 12 + 7, none⟩ (.int .i64 1800)).heap.size = w5.heap.size := by simp [World.setCell]
    clear k0 k1 k2 k3 k4 k5 k6 k8 k9 k10 k11 hz5 own5l bka5 bka Hcl own4 hb5 own5
    go_wp2_with fail
    generalize w5.setCell ⟨g5, k * 12 + 7, none⟩ (.int .i64 1800) = w6 at *
    clear k7 z7
    have Hcb2 := hide (Corners_ok (some ⟨g5, 0, none⟩) m c5 k (updT G2 k 1800) T2 _ _ ((k : Int) + 1) w6 (Hq.out.below hbl6) (updT_ok Hok.out (by omega) (by omega)) hrs hc5 hkm (by rw [updT_of (by omega)]; exact Hit.out k) Hcb.out)
    refine Hcb2.out.mono ?_
    rintro e w7 ⟨gb, rfl, hgb, bkb, hb7⟩
    have hbl7 := hbl6.trans (hb7.mono hbl6.size)
    have own7 := own_below own6l hb7
    have bka7 := bka6.below hb7 bka6.lt
    have hs67 := hb7.size
    clear Hcb2 hrs own6l bka6 hb7
    have Hcl := hide (clone_ok m G2 T2 (some ⟨g2, 0, none⟩) c2 _ w7 (by omega) own7)
    go_wp2_with fail
    refine Hcl.out.mono ?_
    rintro e w8 ⟨A8, c8, rfl, own8, hb8⟩
    have hbl8 := hbl7.trans (hb8.mono hbl7.size)
    have bka8 := bka7.below hb8 bka7.lt
    have bkb8 := bkb.below hb8 bkb.lt
    obtain ⟨g8, rfl, hg8a, hg8b, hc8, hz8⟩ := own_addr own8 (by omega)
    obtain ⟨b', off', hA, k0, k1, k2, k3, k4, k5, k6, k7, k8, k9, k10, k11⟩ := cells12 (RdF.of_own own8) hkm
    injection hA with hA
    injection hA with hA1 hA2
    subst hA1 hA2
    simp only [Nat.zero_add] at k7
    have z7 := hz8 (k * 12 + 7)
    have hrs := rdF_updT (t := 900) (RdF.of_own own8) hkm
    rw [Nat.zero_add] at hrs
    have hgal := bka7.lt
    have hgbl := bkb.lt
    have hne1 : ga ≠ g8 := by omega
    have hne2 : gb ≠ g8 := by omega
    have bka9 := bka8.far (p := ⟨g8, k * 12 + 7, none⟩) hne1 (.int .i64 900)
    have bkb9 := bkb8.far (p := ⟨g8, k * 12 + 7, none⟩) hne2 (.int .i64 900)
    have hbl9 := hbl8.setCell (p := ⟨g8, k * 12 + 7, none⟩) (by show w.heap.size ≤ g8; have := hbl7.size; omega) (.int .i64 900)
    clear k0 k1 k2 k3 k4 k5 k6 k8 k9 k10 k11 hz8 bka8 bka7 bkb8 bkb Hcl own7 hb8 own8
    go_wp2_with fail
    generalize w8.setCell ⟨g8, k * 12 + 7, none⟩ (.int .i64 900) = w9 at *
    clear k7 z7
    have Hcc2 := hide (Corners_ok (some ⟨g8, 0, none⟩) m c8 k (updT G2 k 900) T2 _ _ ((k : Int) + 1) w9 (Hq.out.below hbl9) (updT_ok Hok.out (by omega) (by omega)) hrs hc8 hkm (by rw [updT_of (by omega)]; exact Hit.out k) Hcc.out)
    refine Hcc2.out.mono ?_
    rintro e w10 ⟨gc, rfl, hgc, bkc, hb10⟩
    have hbl10 := hbl9.trans (hb10.mono hbl9.size)
    have bka10 := bka9.below hb10 bka9.lt
    have bkb10 := bkb9.below hb10 bkb9.lt
    clear Hcc2 hrs bka9 bkb9 hb10 Hcb Hcc Hok Hit
    obtain ⟨xa, xb, ya, yb, ua, ub, va, vb, ea, eb, ec, r1, r2, ⟨l1, l2, l3, l4⟩, l5, l6, l7, l8⟩ := H8.out
    have fa := blk_cells ea bka10
    have fb := blk_cells eb bkb10
    have fc := blk_cells ec bkc
    have r3 : ua - ub = -(ya - yb) := by omega
    have r4 : va - vb = xa - xb := by omega
    have Hr1 := hide r1
    have Hr2 := hide r2
    have Hr3 := hide r3
    have Hr4 := hide r4
    clear ea eb ec bka10 bkb10 bkc hdx hdy X1 X2 Y1 Y2 V1 V2 W1 W2 H8 r1 r2 r3 r4
    go_upto_region 17 with fail
    go_loopw [91] (fun a wr => ∃ (m : Nat) (z : Int), Nth m z ∧ a = .int .i64 z ∧ Blk wr ga 54 (q8 xa ya xb ya xb yb xa yb) ∧ Blk wr gb 54 (q8 xb yb xa yb xa ya xb ya) ∧ Blk wr gc 54 (q8 ua va ua vb ub vb ub va) ∧ Below w.heap.size w wr) (fun a _ => 4 - (intOf a).toNat)
    case atStart => exact ⟨0, 0, .inl ⟨rfl, rfl⟩, rfl, fa, fb, fc, hbl10⟩
    case round =>
      clear fa fb fc hbl10
      obtain ⟨m, z, hnth, rfl, fa, fb, fc, bb⟩ := hrel
      have a0 : wr.cell? ⟨ga, 0, none⟩ = some (.int .i64 xa) := fa.cell 0
      have a1 : wr.cell? ⟨ga, 1, none⟩ = some (.int .i64 ya) := fa.cell 1
      have a2 : wr.cell? ⟨ga, 2, none⟩ = some (.int .i64 xb) := fa.cell 2
      have a3 : wr.cell? ⟨ga, 3, none⟩ = some (.int .i64 ya) := fa.cell 3
      have a4 : wr.cell? ⟨ga, 4, none⟩ = some (.int .i64 xb) := fa.cell 4
      have a5 : wr.cell? ⟨ga, 5, none⟩ = some (.int .i64 yb) := fa.cell 5
      have a6 : wr.cell? ⟨ga, 6, none⟩ = some (.int .i64 xa) := fa.cell 6
      have a7 : wr.cell? ⟨ga, 7, none⟩ = some (.int .i64 yb) := fa.cell 7
      have b0 : wr.cell? ⟨gb, 0, none⟩ = some (.int .i64 xb) := fb.cell 0
      have b1 : wr.cell? ⟨gb, 1, none⟩ = some (.int .i64 yb) := fb.cell 1
      have b2 : wr.cell? ⟨gb, 2, none⟩ = some (.int .i64 xa) := fb.cell 2
      have b3 : wr.cell? ⟨gb, 3, none⟩ = some (.int .i64 yb) := fb.cell 3
      have b4 : wr.cell? ⟨gb, 4, none⟩ = some (.int .i64 xa) := fb.cell 4
      have b5 : wr.cell? ⟨gb, 5, none⟩ = some (.int .i64 ya) := fb.cell 5
      have b6 : wr.cell? ⟨gb, 6, none⟩ = some (.int .i64 xb) := fb.cell 6
      have b7 : wr.cell? ⟨gb, 7, none⟩ = some (.int .i64 ya) := fb.cell 7
      have c0 : wr.cell? ⟨gc, 0, none⟩ = some (.int .i64 ua) := fc.cell 0
      have c1 : wr.cell? ⟨gc, 1, none⟩ = some (.int .i64 va) := fc.cell 1
      have c2 : wr.cell? ⟨gc, 2, none⟩ = some (.int .i64 ua) := fc.cell 2
      have c3 : wr.cell? ⟨gc, 3, none⟩ = some (.int .i64 vb) := fc.cell 3
      have c4 : wr.cell? ⟨gc, 4, none⟩ = some (.int .i64 ub) := fc.cell 4
      have c5 : wr.cell? ⟨gc, 5, none⟩ = some (.int .i64 vb) := fc.cell 5
      have c6 : wr.cell? ⟨gc, 6, none⟩ = some (.int .i64 ub) := fc.cell 6
      have c7 : wr.cell? ⟨gc, 7, none⟩ = some (.int .i64 va) := fc.cell 7
      have Fa := hide fa
      have Fb := hide fb
      have Fc := hide fc
      have Bb := hide bb
      clear fa fb fc bb
      rcases hnth with ⟨rfl, rfl⟩ | ⟨rfl, rfl⟩ | ⟨rfl, rfl⟩ | ⟨rfl, rfl⟩ | ⟨rfl, rfl⟩
      · go_upto_region 19 with fail
        go_cut [104] (fun v wc => v = .bool false ∧ Blk wc ga 54 (q8 xa ya xb ya xb yb xa yb) ∧ Blk wc gb 54 (q8 xb yb xa yb xa ya xb ya) ∧ Blk wc gc 54 (q8 ua va ua vb ub vb ub va) ∧ Below w.heap.size w wc)
        case first =>
          go_quiet (fail)
          go_wp2_with fail
          go_meet
          exact ⟨rfl, Fa.out.drewN _, Fb.out.drewN _, Fc.out.drewN _, below_drewN Bb.out _⟩
        case rest =>
          clear a0 a1 a2 a3 a4 a5 a6 a7 b0 b1 b2 b3 b4 b5 b6 b7 c0 c1 c2 c3 c4 c5 c6 c7 Fa Fb Fc Bb
          obtain ⟨rfl, fa, fb, fc, bb⟩ := hcut
          have la := fa.lt
          have lc := fc.lt
          have a0 : wc.cell? ⟨ga, 0, none⟩ = some (.int .i64 xa) := fa.cell 0
          have c0 : wc.cell? ⟨gc, 0, none⟩ = some (.int .i64 ua) := fc.cell 0
          have a1 : wc.cell? ⟨ga, 1, none⟩ = some (.int .i64 ya) := fa.cell 1
          have c1 : wc.cell? ⟨gc, 1, none⟩ = some (.int .i64 va) := fc.cell 1
          have a2 : wc.cell? ⟨ga, 2, none⟩ = some (.int .i64 xb) := fa.cell 2
          have c2 : wc.cell? ⟨gc, 2, none⟩ = some (.int .i64 ua) := fc.cell 2
          have a3 : wc.cell? ⟨ga, 3, none⟩ = some (.int .i64 ya) := fa.cell 3
          have c3 : wc.cell? ⟨gc, 3, none⟩ = some (.int .i64 vb) := fc.cell 3
          have x1 : IntKind.i64.wrap ((0 : Int) + 1) = 1 := by decide
          have x2 : IntKind.i64.wrap ((1 : Int).tmod 4) = 1 := by decide
          have x3 : (1 : Int).tmod 4 = 1 := by decide
          have x4 : IntKind.i64.wrap 1 = 1 := by decide
          go_upto_region 21 with fail
          go_cut [15, 16, 17, 18] (fun p q r s wc => ∃ g1 g2 g3 g4, p = .pointer (some ⟨g1, 0, none⟩) ∧ q = .pointer (some ⟨g2, 0, none⟩) ∧ r = .pointer (some ⟨g3, 0, none⟩) ∧ s = .pointer (some ⟨g4, 0, none⟩) ∧ (wc.cell? ⟨g1, 0, none⟩ = some (.int .i64 xa) ∧ wc.cell? ⟨g1, 1, none⟩ = some (.int .i64 ya) ∧ wc.cell? ⟨g2, 0, none⟩ = some (.int .i64 xb) ∧ wc.cell? ⟨g2, 1, none⟩ = some (.int .i64 ya) ∧ wc.cell? ⟨g3, 0, none⟩ = some (.int .i64 ua) ∧ wc.cell? ⟨g3, 1, none⟩ = some (.int .i64 va) ∧ wc.cell? ⟨g4, 0, none⟩ = some (.int .i64 ua) ∧ wc.cell? ⟨g4, 1, none⟩ = some (.int .i64 vb)) ∧
            Blk wc ga 54 (q8 xa ya xb ya xb yb xa yb) ∧ Blk wc gb 54 (q8 xb yb xa yb xa ya xb ya) ∧ Blk wc gc 54 (q8 ua va ua vb ub vb ub va) ∧ Below w.heap.size w wc)
          case first =>
            refine wp_region_held (S := fun w' : World => w'.cell? ⟨ga, 0, none⟩ = some (.int .i64 xa) ∧ w'.cell? ⟨ga, 1, none⟩ = some (.int .i64 ya) ∧ w'.cell? ⟨ga, 2, none⟩ = some (.int .i64 xb) ∧ w'.cell? ⟨ga, 3, none⟩ = some (.int .i64 ya) ∧ w'.cell? ⟨gc, 0, none⟩ = some (.int .i64 ua) ∧ w'.cell? ⟨gc, 1, none⟩ = some (.int .i64 va) ∧ w'.cell? ⟨gc, 2, none⟩ = some (.int .i64 ua) ∧ w'.cell? ⟨gc, 3, none⟩ = some (.int .i64 vb)) (by kernel_rfl) ?_
            have hHeld : (fun w' : World => w'.cell? ⟨ga, 0, none⟩ = some (.int .i64 xa) ∧ w'.cell? ⟨ga, 1, none⟩ = some (.int .i64 ya) ∧ w'.cell? ⟨ga, 2, none⟩ = some (.int .i64 xb) ∧ w'.cell? ⟨ga, 3, none⟩ = some (.int .i64 ya) ∧ w'.cell? ⟨gc, 0, none⟩ = some (.int .i64 ua) ∧ w'.cell? ⟨gc, 1, none⟩ = some (.int .i64 va) ∧ w'.cell? ⟨gc, 2, none⟩ = some (.int .i64 ua) ∧ w'.cell? ⟨gc, 3, none⟩ = some (.int .i64 vb)) _ := ⟨a0, a1, a2, a3, c0, c1, c2, c3⟩
            refine wpAnyH_take (i := 0) (v := ?vr0q0) rfl (by kernel_rfl) (by kernel_rfl) (by kernel_rfl) (fun _ _ _ h => h) (Or.inl ⟨by rfl, ?hyr0q0⟩) (by assumption) ?_
            case hyr0q0 => (intro w hSw; (try dsimp only at hSw); go_simp; try with_reducible rfl)
            try simp only [Act.put]
            refine wpAnyH_take (i := 1) (v := ?vr0q1) rfl (by kernel_rfl) (by kernel_rfl) (by kernel_rfl) (fun _ _ _ h => h) (Or.inl ⟨by rfl, ?hyr0q1⟩) (by assumption) ?_
            case hyr0q1 => (intro w hSw; (try dsimp only at hSw); go_simp; try with_reducible rfl)
            try simp only [Act.put]
            refine wpAnyH_take (i := 2) (v := ?vr0q2) rfl (by kernel_rfl) (by kernel_rfl) (by kernel_rfl) (fun _ _ _ h => h) (Or.inl ⟨by rfl, ?hyr0q2⟩) (by assumption) ?_
            case hyr0q2 => (intro w hSw; (try dsimp only at hSw); go_simp; try with_reducible rfl)
            try simp only [Act.put]
            refine wpAnyH_take (i := 3) (v := ?vr0q3) rfl (by kernel_rfl) (by kernel_rfl) (by kernel_rfl) (fun _ _ _ h => h) (Or.inl ⟨by rfl, ?hyr0q3⟩) (by assumption) ?_
            case hyr0q3 => (intro w hSw; (try dsimp only at hSw); go_simp; try with_reducible rfl)
            try simp only [Act.put]
            refine wpAnyH_take (i := 4) (v := ?vr0q4) rfl (by kernel_rfl) (by kernel_rfl) (by kernel_rfl) (fun _ _ _ h => h) (Or.inl ⟨by rfl, ?hyr0q4⟩) (by assumption) ?_
            case hyr0q4 => (intro w hSw; (try dsimp only at hSw); go_simp; try with_reducible rfl)
            try simp only [Act.put]
            refine wpAnyH_take (i := 5) (v := ?vr0q5) rfl (by kernel_rfl) (by kernel_rfl) (by kernel_rfl) (fun _ _ _ h => h) (Or.inl ⟨by rfl, ?hyr0q5⟩) (by assumption) ?_
            case hyr0q5 => (intro w hSw; (try dsimp only at hSw); go_simp; try with_reducible rfl)
            try simp only [Act.put]
            refine wpAnyH_take (i := 6) (v := ?vr0q6) rfl (by kernel_rfl) (by kernel_rfl) (by kernel_rfl) (fun _ _ _ h => h) (Or.inl ⟨by rfl, ?hyr0q6⟩) (by assumption) ?_
            case hyr0q6 => (intro w hSw; (try dsimp only at hSw); go_simp; try with_reducible rfl)
            try simp only [Act.put]
            refine wpAnyH_take (i := 7) (v := ?vr0q7) rfl (by kernel_rfl) (by kernel_rfl) (by kernel_rfl) (fun _ _ _ h => h) (Or.inl ⟨by rfl, ?hyr0q7⟩) (by assumption) ?_
            case hyr0q7 => (intro w hSw; (try dsimp only at hSw); go_simp; try with_reducible rfl)
            try simp only [Act.put]
            refine wpAnyH_take (i := 8) (v := ?vr0q8) rfl (by kernel_rfl) (by kernel_rfl) (by kernel_rfl) (fun _ _ _ h => h) (Or.inl ⟨by rfl, ?hyr0q8⟩) (by assumption) ?_
            case hyr0q8 => (intro w hSw; (try dsimp only at hSw); go_simp; try with_reducible rfl)
            try simp only [Act.put]
            refine wpAnyH_take (i := 9) (v := ?vr0q9) rfl (by kernel_rfl) (by kernel_rfl) (by kernel_rfl) (fun _ _ _ h => h) (Or.inl ⟨by rfl, ?hyr0q9⟩) (by assumption) ?_
            case hyr0q9 => (intro w hSw; (try dsimp only at hSw); go_simp; try with_reducible rfl)
            try simp only [Act.put]
            refine wpAnyH_take (i := 10) (v := ?vr0q10) rfl (by kernel_rfl) (by kernel_rfl) (by kernel_rfl) (fun _ _ _ h => h) (Or.inl ⟨by rfl, ?hyr0q10⟩) (by assumption) ?_
            case hyr0q10 => (intro w hSw; (try dsimp only at hSw); go_simp; try with_reducible rfl)
            try simp only [Act.put]
            refine wpAnyH_take (i := 11) (v := ?vr0q11) rfl (by kernel_rfl) (by kernel_rfl) (by kernel_rfl) (fun _ _ _ h => h) (Or.inl ⟨by rfl, ?hyr0q11⟩) (by assumption) ?_
            case hyr0q11 => (intro w hSw; (try dsimp only at hSw); go_simp; try with_reducible rfl)
            try simp only [Act.put]
            refine wpAnyH_take (i := 12) (v := ?vr0q12) rfl (by kernel_rfl) (by kernel_rfl) (by kernel_rfl) (fun _ _ _ h => h) (Or.inl ⟨by rfl, ?hyr0q12⟩) (by assumption) ?_
            case hyr0q12 => (intro w hSw; (try dsimp only at hSw); go_simp; try with_reducible rfl)
            try simp only [Act.put]
            refine wpAnyH_take (i := 13) (v := ?vr0q13) rfl (by kernel_rfl) (by kernel_rfl) (by kernel_rfl) (fun _ _ _ h => h) (Or.inl ⟨by rfl, ?hyr0q13⟩) (by assumption) ?_
            case hyr0q13 => (intro w hSw; (try dsimp only at hSw); go_simp; try with_reducible rfl)
            try simp only [Act.put]
            refine wpAnyH_take (i := 14) (v := ?vr0q14) rfl (by kernel_rfl) (by kernel_rfl) (by kernel_rfl) (fun _ _ _ h => h) (Or.inl ⟨by rfl, ?hyr0q14⟩) (by assumption) ?_
            case hyr0q14 => (intro w hSw; (try dsimp only at hSw); go_simp; try with_reducible rfl)
            try simp only [Act.put]
            refine wpAnyH_take (i := 15) (v := ?vr0q15) rfl (by kernel_rfl) (by kernel_rfl) (by kernel_rfl) (fun _ _ _ h => h) (Or.inl ⟨by rfl, ?hyr0q15⟩) (by assumption) ?_
            case hyr0q15 => (intro w hSw; (try dsimp only at hSw); go_simp; try with_reducible rfl)
            try simp only [Act.put]
            refine wpAnyH_take (i := 16) (v := ?vr0q16) rfl (by kernel_rfl) (by kernel_rfl) (by kernel_rfl) (fun _ _ _ h => h) (Or.inl ⟨by rfl, ?hyr0q16⟩) (by assumption) ?_
            case hyr0q16 => (intro w hSw; (try dsimp only at hSw); go_simp; try with_reducible rfl)
            try simp only [Act.put]
            refine wpAnyH_take (i := 17) (v := ?vr0q17) rfl (by kernel_rfl) (by kernel_rfl) (by kernel_rfl) (fun _ _ _ h => h) (Or.inl ⟨by rfl, ?hyr0q17⟩) (by assumption) ?_
            case hyr0q17 => (intro w hSw; (try dsimp only at hSw); go_simp; try with_reducible rfl)
            try simp only [Act.put]
            refine wpAnyH_take (i := 18) (v := ?vr0q18) rfl (by kernel_rfl) (by kernel_rfl) (by kernel_rfl) (fun _ _ _ h => h) (Or.inl ⟨by rfl, ?hyr0q18⟩) (by assumption) ?_
            case hyr0q18 => (intro w hSw; (try dsimp only at hSw); go_simp; try with_reducible rfl)
            try simp only [Act.put]
            refine wpAnyH_take (i := 19) (v := ?vr0q19) rfl (by kernel_rfl) (by kernel_rfl) (by kernel_rfl) (fun _ _ _ h => h) (Or.inl ⟨by rfl, ?hyr0q19⟩) (by assumption) ?_
            case hyr0q19 => (intro w hSw; (try dsimp only at hSw); go_simp; try with_reducible rfl)
            try simp only [Act.put]
            refine boxes_run (k := 4) (al := fun i => 20 + i) (st := fun i => 24 + i) (ty := fun _ => 34) (d := fun i => 15 + i) (x := (fun i : Nat => if i = 0 then Operand.tmp 108 else if i = 1 then Operand.tmp 114 else if i = 2 then Operand.tmp 118 else Operand.tmp 124)) (V := fun i => Value.agg ((fun i : Nat => if i = 0 then ptc xa ya else if i = 1 then ptc xb ya else if i = 2 then ptc ua va else ptc ua vb) i)) (zc := fun _ => ptz) (vc := (fun i : Nat => if i = 0 then ptc xa ya else if i = 1 then ptc xb ya else if i = 2 then ptc ua va else ptc ua vb)) ⟨by kernel_rfl, fun i hi => ?har0, fun i hi => ?hbr0, by kernel_rfl, fun i hi => ?hur0, fun i j hi hj hij => ⟨fun e => hij (Nat.add_left_cancel e), fun e => hij (Nat.add_left_cancel e), fun e => hij (Nat.add_left_cancel e)⟩, fun i j hi hj => (by show 20 + i ≠ 24 + j; omega), fun i hi => ?hdr0, fun i hi a' h => ?hvr0, fun i hi w => alloc_pt w, fun i hi w g h => ?hsr0⟩ (Nat.le_of_ble_eq_true (by kernel_rfl)) rfl ?hSr0 ?her0
            case har0 =>
              match i, hi with
              | 0, _ => exact ⟨_, rfl, rfl, rfl⟩
              | 1, _ => exact ⟨_, rfl, rfl, rfl⟩
              | 2, _ => exact ⟨_, rfl, rfl, rfl⟩
              | 3, _ => exact ⟨_, rfl, rfl, rfl⟩
            case hbr0 =>
              match i, hi with
              | 0, _ => exact ⟨_, rfl, rfl, rfl, by kernel_rfl⟩
              | 1, _ => exact ⟨_, rfl, rfl, rfl, by kernel_rfl⟩
              | 2, _ => exact ⟨_, rfl, rfl, rfl, by kernel_rfl⟩
              | 3, _ => exact ⟨_, rfl, rfl, rfl, by kernel_rfl⟩
            case hur0 =>
              match i, hi with
              | 0, _ => exact ⟨rfl, rfl⟩
              | 1, _ => exact ⟨rfl, rfl⟩
              | 2, _ => exact ⟨rfl, rfl⟩
              | 3, _ => exact ⟨rfl, rfl⟩
            case hdr0 =>
              match i, hi with
              | 0, _ => simp
              | 1, _ => simp
              | 2, _ => simp
              | 3, _ => simp
            case hvr0 =>
              match i, hi with
              | 0, _ => (show a'.tmps.getD 108 undef = _; rw [Array.getD_eq_getD_getElem?, h 108 (fun j hj => (by show 108 ≠ 15 + j; omega))]; simp [ptc])
              | 1, _ => (show a'.tmps.getD 114 undef = _; rw [Array.getD_eq_getD_getElem?, h 114 (fun j hj => (by show 114 ≠ 15 + j; omega))]; simp [ptc])
              | 2, _ => (show a'.tmps.getD 118 undef = _; rw [Array.getD_eq_getD_getElem?, h 118 (fun j hj => (by show 118 ≠ 15 + j; omega))]; simp [ptc])
              | 3, _ => (show a'.tmps.getD 124 undef = _; rw [Array.getD_eq_getD_getElem?, h 124 (fun j hj => (by show 124 ≠ 15 + j; omega))]; simp [ptc])
            case hsr0 =>
              match i, hi with
              | 0, _ => exact store_pt w g _ _ h
              | 1, _ => exact store_pt w g _ _ h
              | 2, _ => exact store_pt w g _ _ h
              | 3, _ => exact store_pt w g _ _ h
            case hSr0 => exact fun w' hb => ⟨(hb.cell (p := ⟨ga, 0, none⟩) la).trans a0, (hb.cell (p := ⟨ga, 1, none⟩) la).trans a1, (hb.cell (p := ⟨ga, 2, none⟩) la).trans a2, (hb.cell (p := ⟨ga, 3, none⟩) la).trans a3, (hb.cell (p := ⟨gc, 0, none⟩) lc).trans c0, (hb.cell (p := ⟨gc, 1, none⟩) lc).trans c1, (hb.cell (p := ⟨gc, 2, none⟩) lc).trans c2, (hb.cell (p := ⟨gc, 3, none⟩) lc).trans c3⟩
            intro g w' hblk hne hbel
            have h0 : Blk w' (g 0) 34 (ptc xa ya) := (hblk 0 (by omega)).2
            have h1 : Blk w' (g 1) 34 (ptc xb ya) := (hblk 1 (by omega)).2
            have h2 : Blk w' (g 2) 34 (ptc ua va) := (hblk 2 (by omega)).2
            have h3 : Blk w' (g 3) 34 (ptc ua vb) := (hblk 3 (by omega)).2
            have hbel' : Below wc.heap.size wc w' := ⟨hbel.os, hbel.tape, hbel.output, hbel.size, hbel.block⟩
            have e1 := fa.below hbel' la
            have e2 := fb.below hbel' fb.lt
            have e3 := fc.below hbel' lc
            have e4 : Below w.heap.size w w' := bb.trans (hbel'.mono bb.size)
            simp only [boxed, Act.put, List.setIfInBounds_toArray, Nat.reduceAdd]
            go_wp2_with fail
            go_meet
            exact ⟨g 0, g 1, g 2, g 3, rfl, rfl, rfl, rfl, ⟨h0.cell 0, h0.cell 1, h1.cell 0, h1.cell 1, h2.cell 0, h2.cell 1, h3.cell 0, h3.cell 1⟩, e1, e2, e3, e4⟩
          case rest =>
            clear a0 c0 a1 c1 a2 c2 a3 c3 x1 x2 x3 x4 la lc fa fb fc bb
            obtain ⟨g1, g2, g3, g4, rfl, rfl, rfl, rfl, ⟨p0, p1, p2, p3, p4, p5, p6, p7⟩, fa, fb, fc, bb⟩ := hcut
            have Fa := hide fa
            have Fb := hide fb
            have Fc := hide fc
            have Bb := hide bb
            have n1 : (vb - va != xb - xa) = false := by rw [Hr2.out]; simp
            clear fa fb fc bb
            go_wp2_with fail
            exact ⟨⟨1, 1, .inr (.inl ⟨rfl, rfl⟩), rfl, Fa.out, Fb.out, Fc.out, Bb.out⟩, by simp only [intOf]; decide⟩
      · go_upto_region 19 with fail
        go_cut [104] (fun v wc => v = .bool false ∧ Blk wc ga 54 (q8 xa ya xb ya xb yb xa yb) ∧ Blk wc gb 54 (q8 xb yb xa yb xa ya xb ya) ∧ Blk wc gc 54 (q8 ua va ua vb ub vb ub va) ∧ Below w.heap.size w wc)
        case first =>
          go_quiet (fail)
          go_wp2_with fail
          go_meet
          exact ⟨rfl, Fa.out.drewN _, Fb.out.drewN _, Fc.out.drewN _, below_drewN Bb.out _⟩
        case rest =>
          clear a0 a1 a2 a3 a4 a5 a6 a7 b0 b1 b2 b3 b4 b5 b6 b7 c0 c1 c2 c3 c4 c5 c6 c7 Fa Fb Fc Bb
          obtain ⟨rfl, fa, fb, fc, bb⟩ := hcut
          have la := fa.lt
          have lc := fc.lt
          have a2 : wc.cell? ⟨ga, 2, none⟩ = some (.int .i64 xb) := fa.cell 2
          have c2 : wc.cell? ⟨gc, 2, none⟩ = some (.int .i64 ua) := fc.cell 2
          have a3 : wc.cell? ⟨ga, 3, none⟩ = some (.int .i64 ya) := fa.cell 3
          have c3 : wc.cell? ⟨gc, 3, none⟩ = some (.int .i64 vb) := fc.cell 3
          have a4 : wc.cell? ⟨ga, 4, none⟩ = some (.int .i64 xb) := fa.cell 4
          have c4 : wc.cell? ⟨gc, 4, none⟩ = some (.int .i64 ub) := fc.cell 4
          have a5 : wc.cell? ⟨ga, 5, none⟩ = some (.int .i64 yb) := fa.cell 5
          have c5 : wc.cell? ⟨gc, 5, none⟩ = some (.int .i64 vb) := fc.cell 5
          have x1 : IntKind.i64.wrap ((1 : Int) + 1) = 2 := by decide
          have x2 : IntKind.i64.wrap ((2 : Int).tmod 4) = 2 := by decide
          have x3 : (2 : Int).tmod 4 = 2 := by decide
          have x4 : IntKind.i64.wrap 2 = 2 := by decide
          go_upto_region 21 with fail
          go_cut [15, 16, 17, 18] (fun p q r s wc => ∃ g1 g2 g3 g4, p = .pointer (some ⟨g1, 0, none⟩) ∧ q = .pointer (some ⟨g2, 0, none⟩) ∧ r = .pointer (some ⟨g3, 0, none⟩) ∧ s = .pointer (some ⟨g4, 0, none⟩) ∧ (wc.cell? ⟨g1, 0, none⟩ = some (.int .i64 xb) ∧ wc.cell? ⟨g1, 1, none⟩ = some (.int .i64 ya) ∧ wc.cell? ⟨g2, 0, none⟩ = some (.int .i64 xb) ∧ wc.cell? ⟨g2, 1, none⟩ = some (.int .i64 yb) ∧ wc.cell? ⟨g3, 0, none⟩ = some (.int .i64 ua) ∧ wc.cell? ⟨g3, 1, none⟩ = some (.int .i64 vb) ∧ wc.cell? ⟨g4, 0, none⟩ = some (.int .i64 ub) ∧ wc.cell? ⟨g4, 1, none⟩ = some (.int .i64 vb)) ∧
            Blk wc ga 54 (q8 xa ya xb ya xb yb xa yb) ∧ Blk wc gb 54 (q8 xb yb xa yb xa ya xb ya) ∧ Blk wc gc 54 (q8 ua va ua vb ub vb ub va) ∧ Below w.heap.size w wc)
          case first =>
            refine wp_region_held (S := fun w' : World => w'.cell? ⟨ga, 2, none⟩ = some (.int .i64 xb) ∧ w'.cell? ⟨ga, 3, none⟩ = some (.int .i64 ya) ∧ w'.cell? ⟨ga, 4, none⟩ = some (.int .i64 xb) ∧ w'.cell? ⟨ga, 5, none⟩ = some (.int .i64 yb) ∧ w'.cell? ⟨gc, 2, none⟩ = some (.int .i64 ua) ∧ w'.cell? ⟨gc, 3, none⟩ = some (.int .i64 vb) ∧ w'.cell? ⟨gc, 4, none⟩ = some (.int .i64 ub) ∧ w'.cell? ⟨gc, 5, none⟩ = some (.int .i64 vb)) (by kernel_rfl) ?_
            have hHeld : (fun w' : World => w'.cell? ⟨ga, 2, none⟩ = some (.int .i64 xb) ∧ w'.cell? ⟨ga, 3, none⟩ = some (.int .i64 ya) ∧ w'.cell? ⟨ga, 4, none⟩ = some (.int .i64 xb) ∧ w'.cell? ⟨ga, 5, none⟩ = some (.int .i64 yb) ∧ w'.cell? ⟨gc, 2, none⟩ = some (.int .i64 ua) ∧ w'.cell? ⟨gc, 3, none⟩ = some (.int .i64 vb) ∧ w'.cell? ⟨gc, 4, none⟩ = some (.int .i64 ub) ∧ w'.cell? ⟨gc, 5, none⟩ = some (.int .i64 vb)) _ := ⟨a2, a3, a4, a5, c2, c3, c4, c5⟩
            refine wpAnyH_take (i := 0) (v := ?vr1q0) rfl (by kernel_rfl) (by kernel_rfl) (by kernel_rfl) (fun _ _ _ h => h) (Or.inl ⟨by rfl, ?hyr1q0⟩) (by assumption) ?_
            case hyr1q0 => (intro w hSw; (try dsimp only at hSw); go_simp; try with_reducible rfl)
            try simp only [Act.put]
            refine wpAnyH_take (i := 1) (v := ?vr1q1) rfl (by kernel_rfl) (by kernel_rfl) (by kernel_rfl) (fun _ _ _ h => h) (Or.inl ⟨by rfl, ?hyr1q1⟩) (by assumption) ?_
            case hyr1q1 => (intro w hSw; (try dsimp only at hSw); go_simp; try with_reducible rfl)
            try simp only [Act.put]
            refine wpAnyH_take (i := 2) (v := ?vr1q2) rfl (by kernel_rfl) (by kernel_rfl) (by kernel_rfl) (fun _ _ _ h => h) (Or.inl ⟨by rfl, ?hyr1q2⟩) (by assumption) ?_
            case hyr1q2 => (intro w hSw; (try dsimp only at hSw); go_simp; try with_reducible rfl)
            try simp only [Act.put]
            refine wpAnyH_take (i := 3) (v := ?vr1q3) rfl (by kernel_rfl) (by kernel_rfl) (by kernel_rfl) (fun _ _ _ h => h) (Or.inl ⟨by rfl, ?hyr1q3⟩) (by assumption) ?_
            case hyr1q3 => (intro w hSw; (try dsimp only at hSw); go_simp; try with_reducible rfl)
            try simp only [Act.put]
            refine wpAnyH_take (i := 4) (v := ?vr1q4) rfl (by kernel_rfl) (by kernel_rfl) (by kernel_rfl) (fun _ _ _ h => h) (Or.inl ⟨by rfl, ?hyr1q4⟩) (by assumption) ?_
            case hyr1q4 => (intro w hSw; (try dsimp only at hSw); go_simp; try with_reducible rfl)
            try simp only [Act.put]
            refine wpAnyH_take (i := 5) (v := ?vr1q5) rfl (by kernel_rfl) (by kernel_rfl) (by kernel_rfl) (fun _ _ _ h => h) (Or.inl ⟨by rfl, ?hyr1q5⟩) (by assumption) ?_
            case hyr1q5 => (intro w hSw; (try dsimp only at hSw); go_simp; try with_reducible rfl)
            try simp only [Act.put]
            refine wpAnyH_take (i := 6) (v := ?vr1q6) rfl (by kernel_rfl) (by kernel_rfl) (by kernel_rfl) (fun _ _ _ h => h) (Or.inl ⟨by rfl, ?hyr1q6⟩) (by assumption) ?_
            case hyr1q6 => (intro w hSw; (try dsimp only at hSw); go_simp; try with_reducible rfl)
            try simp only [Act.put]
            refine wpAnyH_take (i := 7) (v := ?vr1q7) rfl (by kernel_rfl) (by kernel_rfl) (by kernel_rfl) (fun _ _ _ h => h) (Or.inl ⟨by rfl, ?hyr1q7⟩) (by assumption) ?_
            case hyr1q7 => (intro w hSw; (try dsimp only at hSw); go_simp; try with_reducible rfl)
            try simp only [Act.put]
            refine wpAnyH_take (i := 8) (v := ?vr1q8) rfl (by kernel_rfl) (by kernel_rfl) (by kernel_rfl) (fun _ _ _ h => h) (Or.inl ⟨by rfl, ?hyr1q8⟩) (by assumption) ?_
            case hyr1q8 => (intro w hSw; (try dsimp only at hSw); go_simp; try with_reducible rfl)
            try simp only [Act.put]
            refine wpAnyH_take (i := 9) (v := ?vr1q9) rfl (by kernel_rfl) (by kernel_rfl) (by kernel_rfl) (fun _ _ _ h => h) (Or.inl ⟨by rfl, ?hyr1q9⟩) (by assumption) ?_
            case hyr1q9 => (intro w hSw; (try dsimp only at hSw); go_simp; try with_reducible rfl)
            try simp only [Act.put]
            refine wpAnyH_take (i := 10) (v := ?vr1q10) rfl (by kernel_rfl) (by kernel_rfl) (by kernel_rfl) (fun _ _ _ h => h) (Or.inl ⟨by rfl, ?hyr1q10⟩) (by assumption) ?_
            case hyr1q10 => (intro w hSw; (try dsimp only at hSw); go_simp; try with_reducible rfl)
            try simp only [Act.put]
            refine wpAnyH_take (i := 11) (v := ?vr1q11) rfl (by kernel_rfl) (by kernel_rfl) (by kernel_rfl) (fun _ _ _ h => h) (Or.inl ⟨by rfl, ?hyr1q11⟩) (by assumption) ?_
            case hyr1q11 => (intro w hSw; (try dsimp only at hSw); go_simp; try with_reducible rfl)
            try simp only [Act.put]
            refine wpAnyH_take (i := 12) (v := ?vr1q12) rfl (by kernel_rfl) (by kernel_rfl) (by kernel_rfl) (fun _ _ _ h => h) (Or.inl ⟨by rfl, ?hyr1q12⟩) (by assumption) ?_
            case hyr1q12 => (intro w hSw; (try dsimp only at hSw); go_simp; try with_reducible rfl)
            try simp only [Act.put]
            refine wpAnyH_take (i := 13) (v := ?vr1q13) rfl (by kernel_rfl) (by kernel_rfl) (by kernel_rfl) (fun _ _ _ h => h) (Or.inl ⟨by rfl, ?hyr1q13⟩) (by assumption) ?_
            case hyr1q13 => (intro w hSw; (try dsimp only at hSw); go_simp; try with_reducible rfl)
            try simp only [Act.put]
            refine wpAnyH_take (i := 14) (v := ?vr1q14) rfl (by kernel_rfl) (by kernel_rfl) (by kernel_rfl) (fun _ _ _ h => h) (Or.inl ⟨by rfl, ?hyr1q14⟩) (by assumption) ?_
            case hyr1q14 => (intro w hSw; (try dsimp only at hSw); go_simp; try with_reducible rfl)
            try simp only [Act.put]
            refine wpAnyH_take (i := 15) (v := ?vr1q15) rfl (by kernel_rfl) (by kernel_rfl) (by kernel_rfl) (fun _ _ _ h => h) (Or.inl ⟨by rfl, ?hyr1q15⟩) (by assumption) ?_
            case hyr1q15 => (intro w hSw; (try dsimp only at hSw); go_simp; try with_reducible rfl)
            try simp only [Act.put]
            refine wpAnyH_take (i := 16) (v := ?vr1q16) rfl (by kernel_rfl) (by kernel_rfl) (by kernel_rfl) (fun _ _ _ h => h) (Or.inl ⟨by rfl, ?hyr1q16⟩) (by assumption) ?_
            case hyr1q16 => (intro w hSw; (try dsimp only at hSw); go_simp; try with_reducible rfl)
            try simp only [Act.put]
            refine wpAnyH_take (i := 17) (v := ?vr1q17) rfl (by kernel_rfl) (by kernel_rfl) (by kernel_rfl) (fun _ _ _ h => h) (Or.inl ⟨by rfl, ?hyr1q17⟩) (by assumption) ?_
            case hyr1q17 => (intro w hSw; (try dsimp only at hSw); go_simp; try with_reducible rfl)
            try simp only [Act.put]
            refine wpAnyH_take (i := 18) (v := ?vr1q18) rfl (by kernel_rfl) (by kernel_rfl) (by kernel_rfl) (fun _ _ _ h => h) (Or.inl ⟨by rfl, ?hyr1q18⟩) (by assumption) ?_
            case hyr1q18 => (intro w hSw; (try dsimp only at hSw); go_simp; try with_reducible rfl)
            try simp only [Act.put]
            refine wpAnyH_take (i := 19) (v := ?vr1q19) rfl (by kernel_rfl) (by kernel_rfl) (by kernel_rfl) (fun _ _ _ h => h) (Or.inl ⟨by rfl, ?hyr1q19⟩) (by assumption) ?_
            case hyr1q19 => (intro w hSw; (try dsimp only at hSw); go_simp; try with_reducible rfl)
            try simp only [Act.put]
            refine boxes_run (k := 4) (al := fun i => 20 + i) (st := fun i => 24 + i) (ty := fun _ => 34) (d := fun i => 15 + i) (x := (fun i : Nat => if i = 0 then Operand.tmp 108 else if i = 1 then Operand.tmp 114 else if i = 2 then Operand.tmp 118 else Operand.tmp 124)) (V := fun i => Value.agg ((fun i : Nat => if i = 0 then ptc xb ya else if i = 1 then ptc xb yb else if i = 2 then ptc ua vb else ptc ub vb) i)) (zc := fun _ => ptz) (vc := (fun i : Nat => if i = 0 then ptc xb ya else if i = 1 then ptc xb yb else if i = 2 then ptc ua vb else ptc ub vb)) ⟨by kernel_rfl, fun i hi => ?har1, fun i hi => ?hbr1, by kernel_rfl, fun i hi => ?hur1, fun i j hi hj hij => ⟨fun e => hij (Nat.add_left_cancel e), fun e => hij (Nat.add_left_cancel e), fun e => hij (Nat.add_left_cancel e)⟩, fun i j hi hj => (by show 20 + i ≠ 24 + j; omega), fun i hi => ?hdr1, fun i hi a' h => ?hvr1, fun i hi w => alloc_pt w, fun i hi w g h => ?hsr1⟩ (Nat.le_of_ble_eq_true (by kernel_rfl)) rfl ?hSr1 ?her1
            case har1 =>
              match i, hi with
              | 0, _ => exact ⟨_, rfl, rfl, rfl⟩
              | 1, _ => exact ⟨_, rfl, rfl, rfl⟩
              | 2, _ => exact ⟨_, rfl, rfl, rfl⟩
              | 3, _ => exact ⟨_, rfl, rfl, rfl⟩
            case hbr1 =>
              match i, hi with
              | 0, _ => exact ⟨_, rfl, rfl, rfl, by kernel_rfl⟩
              | 1, _ => exact ⟨_, rfl, rfl, rfl, by kernel_rfl⟩
              | 2, _ => exact ⟨_, rfl, rfl, rfl, by kernel_rfl⟩
              | 3, _ => exact ⟨_, rfl, rfl, rfl, by kernel_rfl⟩
            case hur1 =>
              match i, hi with
              | 0, _ => exact ⟨rfl, rfl⟩
              | 1, _ => exact ⟨rfl, rfl⟩
              | 2, _ => exact ⟨rfl, rfl⟩
              | 3, _ => exact ⟨rfl, rfl⟩
            case hdr1 =>
              match i, hi with
              | 0, _ => simp
              | 1, _ => simp
              | 2, _ => simp
              | 3, _ => simp
            case hvr1 =>
              match i, hi with
              | 0, _ => (show a'.tmps.getD 108 undef = _; rw [Array.getD_eq_getD_getElem?, h 108 (fun j hj => (by show 108 ≠ 15 + j; omega))]; simp [ptc])
              | 1, _ => (show a'.tmps.getD 114 undef = _; rw [Array.getD_eq_getD_getElem?, h 114 (fun j hj => (by show 114 ≠ 15 + j; omega))]; simp [ptc])
              | 2, _ => (show a'.tmps.getD 118 undef = _; rw [Array.getD_eq_getD_getElem?, h 118 (fun j hj => (by show 118 ≠ 15 + j; omega))]; simp [ptc])
              | 3, _ => (show a'.tmps.getD 124 undef = _; rw [Array.getD_eq_getD_getElem?, h 124 (fun j hj => (by show 124 ≠ 15 + j; omega))]; simp [ptc])
            case hsr1 =>
              match i, hi with
              | 0, _ => exact store_pt w g _ _ h
              | 1, _ => exact store_pt w g _ _ h
              | 2, _ => exact store_pt w g _ _ h
              | 3, _ => exact store_pt w g _ _ h
            case hSr1 => exact fun w' hb => ⟨(hb.cell (p := ⟨ga, 2, none⟩) la).trans a2, (hb.cell (p := ⟨ga, 3, none⟩) la).trans a3, (hb.cell (p := ⟨ga, 4, none⟩) la).trans a4, (hb.cell (p := ⟨ga, 5, none⟩) la).trans a5, (hb.cell (p := ⟨gc, 2, none⟩) lc).trans c2, (hb.cell (p := ⟨gc, 3, none⟩) lc).trans c3, (hb.cell (p := ⟨gc, 4, none⟩) lc).trans c4, (hb.cell (p := ⟨gc, 5, none⟩) lc).trans c5⟩
            intro g w' hblk hne hbel
            have h0 : Blk w' (g 0) 34 (ptc xb ya) := (hblk 0 (by omega)).2
            have h1 : Blk w' (g 1) 34 (ptc xb yb) := (hblk 1 (by omega)).2
            have h2 : Blk w' (g 2) 34 (ptc ua vb) := (hblk 2 (by omega)).2
            have h3 : Blk w' (g 3) 34 (ptc ub vb) := (hblk 3 (by omega)).2
            have hbel' : Below wc.heap.size wc w' := ⟨hbel.os, hbel.tape, hbel.output, hbel.size, hbel.block⟩
            have e1 := fa.below hbel' la
            have e2 := fb.below hbel' fb.lt
            have e3 := fc.below hbel' lc
            have e4 : Below w.heap.size w w' := bb.trans (hbel'.mono bb.size)
            simp only [boxed, Act.put, List.setIfInBounds_toArray, Nat.reduceAdd]
            go_wp2_with fail
            go_meet
            exact ⟨g 0, g 1, g 2, g 3, rfl, rfl, rfl, rfl, ⟨h0.cell 0, h0.cell 1, h1.cell 0, h1.cell 1, h2.cell 0, h2.cell 1, h3.cell 0, h3.cell 1⟩, e1, e2, e3, e4⟩
          case rest =>
            clear a2 c2 a3 c3 a4 c4 a5 c5 x1 x2 x3 x4 la lc fa fb fc bb
            obtain ⟨g1, g2, g3, g4, rfl, rfl, rfl, rfl, ⟨p0, p1, p2, p3, p4, p5, p6, p7⟩, fa, fb, fc, bb⟩ := hcut
            have Fa := hide fa
            have Fb := hide fb
            have Fc := hide fc
            have Bb := hide bb
            have n1 : (ub - ua != -(yb - ya)) = false := by rw [Hr1.out]; simp
            clear fa fb fc bb
            go_wp2_with fail
            exact ⟨⟨2, 2, .inr (.inr (.inl ⟨rfl, rfl⟩)), rfl, Fa.out, Fb.out, Fc.out, Bb.out⟩, by simp only [intOf]; decide⟩
      · go_upto_region 19 with fail
        go_cut [104] (fun v wc => v = .bool false ∧ Blk wc ga 54 (q8 xa ya xb ya xb yb xa yb) ∧ Blk wc gb 54 (q8 xb yb xa yb xa ya xb ya) ∧ Blk wc gc 54 (q8 ua va ua vb ub vb ub va) ∧ Below w.heap.size w wc)
        case first =>
          go_quiet (fail)
          go_wp2_with fail
          go_meet
          exact ⟨rfl, Fa.out.drewN _, Fb.out.drewN _, Fc.out.drewN _, below_drewN Bb.out _⟩
        case rest =>
          clear a0 a1 a2 a3 a4 a5 a6 a7 b0 b1 b2 b3 b4 b5 b6 b7 c0 c1 c2 c3 c4 c5 c6 c7 Fa Fb Fc Bb
          obtain ⟨rfl, fa, fb, fc, bb⟩ := hcut
          have la := fa.lt
          have lc := fc.lt
          have a4 : wc.cell? ⟨ga, 4, none⟩ = some (.int .i64 xb) := fa.cell 4
          have c4 : wc.cell? ⟨gc, 4, none⟩ = some (.int .i64 ub) := fc.cell 4
          have a5 : wc.cell? ⟨ga, 5, none⟩ = some (.int .i64 yb) := fa.cell 5
          have c5 : wc.cell? ⟨gc, 5, none⟩ = some (.int .i64 vb) := fc.cell 5
          have a6 : wc.cell? ⟨ga, 6, none⟩ = some (.int .i64 xa) := fa.cell 6
          have c6 : wc.cell? ⟨gc, 6, none⟩ = some (.int .i64 ub) := fc.cell 6
          have a7 : wc.cell? ⟨ga, 7, none⟩ = some (.int .i64 yb) := fa.cell 7
          have c7 : wc.cell? ⟨gc, 7, none⟩ = some (.int .i64 va) := fc.cell 7
          have x1 : IntKind.i64.wrap ((2 : Int) + 1) = 3 := by decide
          have x2 : IntKind.i64.wrap ((3 : Int).tmod 4) = 3 := by decide
          have x3 : (3 : Int).tmod 4 = 3 := by decide
          have x4 : IntKind.i64.wrap 3 = 3 := by decide
          go_upto_region 21 with fail
          go_cut [15, 16, 17, 18] (fun p q r s wc => ∃ g1 g2 g3 g4, p = .pointer (some ⟨g1, 0, none⟩) ∧ q = .pointer (some ⟨g2, 0, none⟩) ∧ r = .pointer (some ⟨g3, 0, none⟩) ∧ s = .pointer (some ⟨g4, 0, none⟩) ∧ (wc.cell? ⟨g1, 0, none⟩ = some (.int .i64 xb) ∧ wc.cell? ⟨g1, 1, none⟩ = some (.int .i64 yb) ∧ wc.cell? ⟨g2, 0, none⟩ = some (.int .i64 xa) ∧ wc.cell? ⟨g2, 1, none⟩ = some (.int .i64 yb) ∧ wc.cell? ⟨g3, 0, none⟩ = some (.int .i64 ub) ∧ wc.cell? ⟨g3, 1, none⟩ = some (.int .i64 vb) ∧ wc.cell? ⟨g4, 0, none⟩ = some (.int .i64 ub) ∧ wc.cell? ⟨g4, 1, none⟩ = some (.int .i64 va)) ∧
            Blk wc ga 54 (q8 xa ya xb ya xb yb xa yb) ∧ Blk wc gb 54 (q8 xb yb xa yb xa ya xb ya) ∧ Blk wc gc 54 (q8 ua va ua vb ub vb ub va) ∧ Below w.heap.size w wc)
          case first =>
            refine wp_region_held (S := fun w' : World => w'.cell? ⟨ga, 4, none⟩ = some (.int .i64 xb) ∧ w'.cell? ⟨ga, 5, none⟩ = some (.int .i64 yb) ∧ w'.cell? ⟨ga, 6, none⟩ = some (.int .i64 xa) ∧ w'.cell? ⟨ga, 7, none⟩ = some (.int .i64 yb) ∧ w'.cell? ⟨gc, 4, none⟩ = some (.int .i64 ub) ∧ w'.cell? ⟨gc, 5, none⟩ = some (.int .i64 vb) ∧ w'.cell? ⟨gc, 6, none⟩ = some (.int .i64 ub) ∧ w'.cell? ⟨gc, 7, none⟩ = some (.int .i64 va)) (by kernel_rfl) ?_
            have hHeld : (fun w' : World => w'.cell? ⟨ga, 4, none⟩ = some (.int .i64 xb) ∧ w'.cell? ⟨ga, 5, none⟩ = some (.int .i64 yb) ∧ w'.cell? ⟨ga, 6, none⟩ = some (.int .i64 xa) ∧ w'.cell? ⟨ga, 7, none⟩ = some (.int .i64 yb) ∧ w'.cell? ⟨gc, 4, none⟩ = some (.int .i64 ub) ∧ w'.cell? ⟨gc, 5, none⟩ = some (.int .i64 vb) ∧ w'.cell? ⟨gc, 6, none⟩ = some (.int .i64 ub) ∧ w'.cell? ⟨gc, 7, none⟩ = some (.int .i64 va)) _ := ⟨a4, a5, a6, a7, c4, c5, c6, c7⟩
            refine wpAnyH_take (i := 0) (v := ?vr2q0) rfl (by kernel_rfl) (by kernel_rfl) (by kernel_rfl) (fun _ _ _ h => h) (Or.inl ⟨by rfl, ?hyr2q0⟩) (by assumption) ?_
            case hyr2q0 => (intro w hSw; (try dsimp only at hSw); go_simp; try with_reducible rfl)
            try simp only [Act.put]
            refine wpAnyH_take (i := 1) (v := ?vr2q1) rfl (by kernel_rfl) (by kernel_rfl) (by kernel_rfl) (fun _ _ _ h => h) (Or.inl ⟨by rfl, ?hyr2q1⟩) (by assumption) ?_
            case hyr2q1 => (intro w hSw; (try dsimp only at hSw); go_simp; try with_reducible rfl)
            try simp only [Act.put]
            refine wpAnyH_take (i := 2) (v := ?vr2q2) rfl (by kernel_rfl) (by kernel_rfl) (by kernel_rfl) (fun _ _ _ h => h) (Or.inl ⟨by rfl, ?hyr2q2⟩) (by assumption) ?_
            case hyr2q2 => (intro w hSw; (try dsimp only at hSw); go_simp; try with_reducible rfl)
            try simp only [Act.put]
            refine wpAnyH_take (i := 3) (v := ?vr2q3) rfl (by kernel_rfl) (by kernel_rfl) (by kernel_rfl) (fun _ _ _ h => h) (Or.inl ⟨by rfl, ?hyr2q3⟩) (by assumption) ?_
            case hyr2q3 => (intro w hSw; (try dsimp only at hSw); go_simp; try with_reducible rfl)
            try simp only [Act.put]
            refine wpAnyH_take (i := 4) (v := ?vr2q4) rfl (by kernel_rfl) (by kernel_rfl) (by kernel_rfl) (fun _ _ _ h => h) (Or.inl ⟨by rfl, ?hyr2q4⟩) (by assumption) ?_
            case hyr2q4 => (intro w hSw; (try dsimp only at hSw); go_simp; try with_reducible rfl)
            try simp only [Act.put]
            refine wpAnyH_take (i := 5) (v := ?vr2q5) rfl (by kernel_rfl) (by kernel_rfl) (by kernel_rfl) (fun _ _ _ h => h) (Or.inl ⟨by rfl, ?hyr2q5⟩) (by assumption) ?_
            case hyr2q5 => (intro w hSw; (try dsimp only at hSw); go_simp; try with_reducible rfl)
            try simp only [Act.put]
            refine wpAnyH_take (i := 6) (v := ?vr2q6) rfl (by kernel_rfl) (by kernel_rfl) (by kernel_rfl) (fun _ _ _ h => h) (Or.inl ⟨by rfl, ?hyr2q6⟩) (by assumption) ?_
            case hyr2q6 => (intro w hSw; (try dsimp only at hSw); go_simp; try with_reducible rfl)
            try simp only [Act.put]
            refine wpAnyH_take (i := 7) (v := ?vr2q7) rfl (by kernel_rfl) (by kernel_rfl) (by kernel_rfl) (fun _ _ _ h => h) (Or.inl ⟨by rfl, ?hyr2q7⟩) (by assumption) ?_
            case hyr2q7 => (intro w hSw; (try dsimp only at hSw); go_simp; try with_reducible rfl)
            try simp only [Act.put]
            refine wpAnyH_take (i := 8) (v := ?vr2q8) rfl (by kernel_rfl) (by kernel_rfl) (by kernel_rfl) (fun _ _ _ h => h) (Or.inl ⟨by rfl, ?hyr2q8⟩) (by assumption) ?_
            case hyr2q8 => (intro w hSw; (try dsimp only at hSw); go_simp; try with_reducible rfl)
            try simp only [Act.put]
            refine wpAnyH_take (i := 9) (v := ?vr2q9) rfl (by kernel_rfl) (by kernel_rfl) (by kernel_rfl) (fun _ _ _ h => h) (Or.inl ⟨by rfl, ?hyr2q9⟩) (by assumption) ?_
            case hyr2q9 => (intro w hSw; (try dsimp only at hSw); go_simp; try with_reducible rfl)
            try simp only [Act.put]
            refine wpAnyH_take (i := 10) (v := ?vr2q10) rfl (by kernel_rfl) (by kernel_rfl) (by kernel_rfl) (fun _ _ _ h => h) (Or.inl ⟨by rfl, ?hyr2q10⟩) (by assumption) ?_
            case hyr2q10 => (intro w hSw; (try dsimp only at hSw); go_simp; try with_reducible rfl)
            try simp only [Act.put]
            refine wpAnyH_take (i := 11) (v := ?vr2q11) rfl (by kernel_rfl) (by kernel_rfl) (by kernel_rfl) (fun _ _ _ h => h) (Or.inl ⟨by rfl, ?hyr2q11⟩) (by assumption) ?_
            case hyr2q11 => (intro w hSw; (try dsimp only at hSw); go_simp; try with_reducible rfl)
            try simp only [Act.put]
            refine wpAnyH_take (i := 12) (v := ?vr2q12) rfl (by kernel_rfl) (by kernel_rfl) (by kernel_rfl) (fun _ _ _ h => h) (Or.inl ⟨by rfl, ?hyr2q12⟩) (by assumption) ?_
            case hyr2q12 => (intro w hSw; (try dsimp only at hSw); go_simp; try with_reducible rfl)
            try simp only [Act.put]
            refine wpAnyH_take (i := 13) (v := ?vr2q13) rfl (by kernel_rfl) (by kernel_rfl) (by kernel_rfl) (fun _ _ _ h => h) (Or.inl ⟨by rfl, ?hyr2q13⟩) (by assumption) ?_
            case hyr2q13 => (intro w hSw; (try dsimp only at hSw); go_simp; try with_reducible rfl)
            try simp only [Act.put]
            refine wpAnyH_take (i := 14) (v := ?vr2q14) rfl (by kernel_rfl) (by kernel_rfl) (by kernel_rfl) (fun _ _ _ h => h) (Or.inl ⟨by rfl, ?hyr2q14⟩) (by assumption) ?_
            case hyr2q14 => (intro w hSw; (try dsimp only at hSw); go_simp; try with_reducible rfl)
            try simp only [Act.put]
            refine wpAnyH_take (i := 15) (v := ?vr2q15) rfl (by kernel_rfl) (by kernel_rfl) (by kernel_rfl) (fun _ _ _ h => h) (Or.inl ⟨by rfl, ?hyr2q15⟩) (by assumption) ?_
            case hyr2q15 => (intro w hSw; (try dsimp only at hSw); go_simp; try with_reducible rfl)
            try simp only [Act.put]
            refine wpAnyH_take (i := 16) (v := ?vr2q16) rfl (by kernel_rfl) (by kernel_rfl) (by kernel_rfl) (fun _ _ _ h => h) (Or.inl ⟨by rfl, ?hyr2q16⟩) (by assumption) ?_
            case hyr2q16 => (intro w hSw; (try dsimp only at hSw); go_simp; try with_reducible rfl)
            try simp only [Act.put]
            refine wpAnyH_take (i := 17) (v := ?vr2q17) rfl (by kernel_rfl) (by kernel_rfl) (by kernel_rfl) (fun _ _ _ h => h) (Or.inl ⟨by rfl, ?hyr2q17⟩) (by assumption) ?_
            case hyr2q17 => (intro w hSw; (try dsimp only at hSw); go_simp; try with_reducible rfl)
            try simp only [Act.put]
            refine wpAnyH_take (i := 18) (v := ?vr2q18) rfl (by kernel_rfl) (by kernel_rfl) (by kernel_rfl) (fun _ _ _ h => h) (Or.inl ⟨by rfl, ?hyr2q18⟩) (by assumption) ?_
            case hyr2q18 => (intro w hSw; (try dsimp only at hSw); go_simp; try with_reducible rfl)
            try simp only [Act.put]
            refine wpAnyH_take (i := 19) (v := ?vr2q19) rfl (by kernel_rfl) (by kernel_rfl) (by kernel_rfl) (fun _ _ _ h => h) (Or.inl ⟨by rfl, ?hyr2q19⟩) (by assumption) ?_
            case hyr2q19 => (intro w hSw; (try dsimp only at hSw); go_simp; try with_reducible rfl)
            try simp only [Act.put]
            refine boxes_run (k := 4) (al := fun i => 20 + i) (st := fun i => 24 + i) (ty := fun _ => 34) (d := fun i => 15 + i) (x := (fun i : Nat => if i = 0 then Operand.tmp 108 else if i = 1 then Operand.tmp 114 else if i = 2 then Operand.tmp 118 else Operand.tmp 124)) (V := fun i => Value.agg ((fun i : Nat => if i = 0 then ptc xb yb else if i = 1 then ptc xa yb else if i = 2 then ptc ub vb else ptc ub va) i)) (zc := fun _ => ptz) (vc := (fun i : Nat => if i = 0 then ptc xb yb else if i = 1 then ptc xa yb else if i = 2 then ptc ub vb else ptc ub va)) ⟨by kernel_rfl, fun i hi => ?har2, fun i hi => ?hbr2, by kernel_rfl, fun i hi => ?hur2, fun i j hi hj hij => ⟨fun e => hij (Nat.add_left_cancel e), fun e => hij (Nat.add_left_cancel e), fun e => hij (Nat.add_left_cancel e)⟩, fun i j hi hj => (by show 20 + i ≠ 24 + j; omega), fun i hi => ?hdr2, fun i hi a' h => ?hvr2, fun i hi w => alloc_pt w, fun i hi w g h => ?hsr2⟩ (Nat.le_of_ble_eq_true (by kernel_rfl)) rfl ?hSr2 ?her2
            case har2 =>
              match i, hi with
              | 0, _ => exact ⟨_, rfl, rfl, rfl⟩
              | 1, _ => exact ⟨_, rfl, rfl, rfl⟩
              | 2, _ => exact ⟨_, rfl, rfl, rfl⟩
              | 3, _ => exact ⟨_, rfl, rfl, rfl⟩
            case hbr2 =>
              match i, hi with
              | 0, _ => exact ⟨_, rfl, rfl, rfl, by kernel_rfl⟩
              | 1, _ => exact ⟨_, rfl, rfl, rfl, by kernel_rfl⟩
              | 2, _ => exact ⟨_, rfl, rfl, rfl, by kernel_rfl⟩
              | 3, _ => exact ⟨_, rfl, rfl, rfl, by kernel_rfl⟩
            case hur2 =>
              match i, hi with
              | 0, _ => exact ⟨rfl, rfl⟩
              | 1, _ => exact ⟨rfl, rfl⟩
              | 2, _ => exact ⟨rfl, rfl⟩
              | 3, _ => exact ⟨rfl, rfl⟩
            case hdr2 =>
              match i, hi with
              | 0, _ => simp
              | 1, _ => simp
              | 2, _ => simp
              | 3, _ => simp
            case hvr2 =>
              match i, hi with
              | 0, _ => (show a'.tmps.getD 108 undef = _; rw [Array.getD_eq_getD_getElem?, h 108 (fun j hj => (by show 108 ≠ 15 + j; omega))]; simp [ptc])
              | 1, _ => (show a'.tmps.getD 114 undef = _; rw [Array.getD_eq_getD_getElem?, h 114 (fun j hj => (by show 114 ≠ 15 + j; omega))]; simp [ptc])
              | 2, _ => (show a'.tmps.getD 118 undef = _; rw [Array.getD_eq_getD_getElem?, h 118 (fun j hj => (by show 118 ≠ 15 + j; omega))]; simp [ptc])
              | 3, _ => (show a'.tmps.getD 124 undef = _; rw [Array.getD_eq_getD_getElem?, h 124 (fun j hj => (by show 124 ≠ 15 + j; omega))]; simp [ptc])
            case hsr2 =>
              match i, hi with
              | 0, _ => exact store_pt w g _ _ h
              | 1, _ => exact store_pt w g _ _ h
              | 2, _ => exact store_pt w g _ _ h
              | 3, _ => exact store_pt w g _ _ h
            case hSr2 => exact fun w' hb => ⟨(hb.cell (p := ⟨ga, 4, none⟩) la).trans a4, (hb.cell (p := ⟨ga, 5, none⟩) la).trans a5, (hb.cell (p := ⟨ga, 6, none⟩) la).trans a6, (hb.cell (p := ⟨ga, 7, none⟩) la).trans a7, (hb.cell (p := ⟨gc, 4, none⟩) lc).trans c4, (hb.cell (p := ⟨gc, 5, none⟩) lc).trans c5, (hb.cell (p := ⟨gc, 6, none⟩) lc).trans c6, (hb.cell (p := ⟨gc, 7, none⟩) lc).trans c7⟩
            intro g w' hblk hne hbel
            have h0 : Blk w' (g 0) 34 (ptc xb yb) := (hblk 0 (by omega)).2
            have h1 : Blk w' (g 1) 34 (ptc xa yb) := (hblk 1 (by omega)).2
            have h2 : Blk w' (g 2) 34 (ptc ub vb) := (hblk 2 (by omega)).2
            have h3 : Blk w' (g 3) 34 (ptc ub va) := (hblk 3 (by omega)).2
            have hbel' : Below wc.heap.size wc w' := ⟨hbel.os, hbel.tape, hbel.output, hbel.size, hbel.block⟩
            have e1 := fa.below hbel' la
            have e2 := fb.below hbel' fb.lt
            have e3 := fc.below hbel' lc
            have e4 : Below w.heap.size w w' := bb.trans (hbel'.mono bb.size)
            simp only [boxed, Act.put, List.setIfInBounds_toArray, Nat.reduceAdd]
            go_wp2_with fail
            go_meet
            exact ⟨g 0, g 1, g 2, g 3, rfl, rfl, rfl, rfl, ⟨h0.cell 0, h0.cell 1, h1.cell 0, h1.cell 1, h2.cell 0, h2.cell 1, h3.cell 0, h3.cell 1⟩, e1, e2, e3, e4⟩
          case rest =>
            clear a4 c4 a5 c5 a6 c6 a7 c7 x1 x2 x3 x4 la lc fa fb fc bb
            obtain ⟨g1, g2, g3, g4, rfl, rfl, rfl, rfl, ⟨p0, p1, p2, p3, p4, p5, p6, p7⟩, fa, fb, fc, bb⟩ := hcut
            have Fa := hide fa
            have Fb := hide fb
            have Fc := hide fc
            have Bb := hide bb
            have n1 : (va - vb != xa - xb) = false := by rw [Hr4.out]; simp
            clear fa fb fc bb
            go_wp2_with fail
            exact ⟨⟨3, 3, .inr (.inr (.inr (.inl ⟨rfl, rfl⟩))), rfl, Fa.out, Fb.out, Fc.out, Bb.out⟩, by simp only [intOf]; decide⟩
      · go_upto_region 19 with fail
        go_cut [104] (fun v wc => v = .bool false ∧ Blk wc ga 54 (q8 xa ya xb ya xb yb xa yb) ∧ Blk wc gb 54 (q8 xb yb xa yb xa ya xb ya) ∧ Blk wc gc 54 (q8 ua va ua vb ub vb ub va) ∧ Below w.heap.size w wc)
        case first =>
          go_quiet (fail)
          go_wp2_with fail
          go_meet
          exact ⟨rfl, Fa.out.drewN _, Fb.out.drewN _, Fc.out.drewN _, below_drewN Bb.out _⟩
        case rest =>
          clear a0 a1 a2 a3 a4 a5 a6 a7 b0 b1 b2 b3 b4 b5 b6 b7 c0 c1 c2 c3 c4 c5 c6 c7 Fa Fb Fc Bb
          obtain ⟨rfl, fa, fb, fc, bb⟩ := hcut
          have la := fa.lt
          have lc := fc.lt
          have a6 : wc.cell? ⟨ga, 6, none⟩ = some (.int .i64 xa) := fa.cell 6
          have c6 : wc.cell? ⟨gc, 6, none⟩ = some (.int .i64 ub) := fc.cell 6
          have a7 : wc.cell? ⟨ga, 7, none⟩ = some (.int .i64 yb) := fa.cell 7
          have c7 : wc.cell? ⟨gc, 7, none⟩ = some (.int .i64 va) := fc.cell 7
          have a0 : wc.cell? ⟨ga, 0, none⟩ = some (.int .i64 xa) := fa.cell 0
          have c0 : wc.cell? ⟨gc, 0, none⟩ = some (.int .i64 ua) := fc.cell 0
          have a1 : wc.cell? ⟨ga, 1, none⟩ = some (.int .i64 ya) := fa.cell 1
          have c1 : wc.cell? ⟨gc, 1, none⟩ = some (.int .i64 va) := fc.cell 1
          have x1 : IntKind.i64.wrap ((3 : Int) + 1) = 4 := by decide
          have x2 : IntKind.i64.wrap ((4 : Int).tmod 4) = 0 := by decide
          have x3 : (4 : Int).tmod 4 = 0 := by decide
          have x4 : IntKind.i64.wrap 4 = 4 := by decide
          go_upto_region 21 with fail
          go_cut [15, 16, 17, 18] (fun p q r s wc => ∃ g1 g2 g3 g4, p = .pointer (some ⟨g1, 0, none⟩) ∧ q = .pointer (some ⟨g2, 0, none⟩) ∧ r = .pointer (some ⟨g3, 0, none⟩) ∧ s = .pointer (some ⟨g4, 0, none⟩) ∧ (wc.cell? ⟨g1, 0, none⟩ = some (.int .i64 xa) ∧ wc.cell? ⟨g1, 1, none⟩ = some (.int .i64 yb) ∧ wc.cell? ⟨g2, 0, none⟩ = some (.int .i64 xa) ∧ wc.cell? ⟨g2, 1, none⟩ = some (.int .i64 ya) ∧ wc.cell? ⟨g3, 0, none⟩ = some (.int .i64 ub) ∧ wc.cell? ⟨g3, 1, none⟩ = some (.int .i64 va) ∧ wc.cell? ⟨g4, 0, none⟩ = some (.int .i64 ua) ∧ wc.cell? ⟨g4, 1, none⟩ = some (.int .i64 va)) ∧
            Blk wc ga 54 (q8 xa ya xb ya xb yb xa yb) ∧ Blk wc gb 54 (q8 xb yb xa yb xa ya xb ya) ∧ Blk wc gc 54 (q8 ua va ua vb ub vb ub va) ∧ Below w.heap.size w wc)
          case first =>
            refine wp_region_held (S := fun w' : World => w'.cell? ⟨ga, 6, none⟩ = some (.int .i64 xa) ∧ w'.cell? ⟨ga, 7, none⟩ = some (.int .i64 yb) ∧ w'.cell? ⟨ga, 0, none⟩ = some (.int .i64 xa) ∧ w'.cell? ⟨ga, 1, none⟩ = some (.int .i64 ya) ∧ w'.cell? ⟨gc, 6, none⟩ = some (.int .i64 ub) ∧ w'.cell? ⟨gc, 7, none⟩ = some (.int .i64 va) ∧ w'.cell? ⟨gc, 0, none⟩ = some (.int .i64 ua) ∧ w'.cell? ⟨gc, 1, none⟩ = some (.int .i64 va)) (by kernel_rfl) ?_
            have hHeld : (fun w' : World => w'.cell? ⟨ga, 6, none⟩ = some (.int .i64 xa) ∧ w'.cell? ⟨ga, 7, none⟩ = some (.int .i64 yb) ∧ w'.cell? ⟨ga, 0, none⟩ = some (.int .i64 xa) ∧ w'.cell? ⟨ga, 1, none⟩ = some (.int .i64 ya) ∧ w'.cell? ⟨gc, 6, none⟩ = some (.int .i64 ub) ∧ w'.cell? ⟨gc, 7, none⟩ = some (.int .i64 va) ∧ w'.cell? ⟨gc, 0, none⟩ = some (.int .i64 ua) ∧ w'.cell? ⟨gc, 1, none⟩ = some (.int .i64 va)) _ := ⟨a6, a7, a0, a1, c6, c7, c0, c1⟩
            refine wpAnyH_take (i := 0) (v := ?vr3q0) rfl (by kernel_rfl) (by kernel_rfl) (by kernel_rfl) (fun _ _ _ h => h) (Or.inl ⟨by rfl, ?hyr3q0⟩) (by assumption) ?_
            case hyr3q0 => (intro w hSw; (try dsimp only at hSw); go_simp; try with_reducible rfl)
            try simp only [Act.put]
            refine wpAnyH_take (i := 1) (v := ?vr3q1) rfl (by kernel_rfl) (by kernel_rfl) (by kernel_rfl) (fun _ _ _ h => h) (Or.inl ⟨by rfl, ?hyr3q1⟩) (by assumption) ?_
            case hyr3q1 => (intro w hSw; (try dsimp only at hSw); go_simp; try with_reducible rfl)
            try simp only [Act.put]
            refine wpAnyH_take (i := 2) (v := ?vr3q2) rfl (by kernel_rfl) (by kernel_rfl) (by kernel_rfl) (fun _ _ _ h => h) (Or.inl ⟨by rfl, ?hyr3q2⟩) (by assumption) ?_
            case hyr3q2 => (intro w hSw; (try dsimp only at hSw); go_simp; try with_reducible rfl)
            try simp only [Act.put]
            refine wpAnyH_take (i := 3) (v := ?vr3q3) rfl (by kernel_rfl) (by kernel_rfl) (by kernel_rfl) (fun _ _ _ h => h) (Or.inl ⟨by rfl, ?hyr3q3⟩) (by assumption) ?_
            case hyr3q3 => (intro w hSw; (try dsimp only at hSw); go_simp; try with_reducible rfl)
            try simp only [Act.put]
            refine wpAnyH_take (i := 4) (v := ?vr3q4) rfl (by kernel_rfl) (by kernel_rfl) (by kernel_rfl) (fun _ _ _ h => h) (Or.inl ⟨by rfl, ?hyr3q4⟩) (by assumption) ?_
            case hyr3q4 => (intro w hSw; (try dsimp only at hSw); go_simp; try with_reducible rfl)
            try simp only [Act.put]
            refine wpAnyH_take (i := 5) (v := ?vr3q5) rfl (by kernel_rfl) (by kernel_rfl) (by kernel_rfl) (fun _ _ _ h => h) (Or.inl ⟨by rfl, ?hyr3q5⟩) (by assumption) ?_
            case hyr3q5 => (intro w hSw; (try dsimp only at hSw); go_simp; try with_reducible rfl)
            try simp only [Act.put]
            refine wpAnyH_take (i := 6) (v := ?vr3q6) rfl (by kernel_rfl) (by kernel_rfl) (by kernel_rfl) (fun _ _ _ h => h) (Or.inl ⟨by rfl, ?hyr3q6⟩) (by assumption) ?_
            case hyr3q6 => (intro w hSw; (try dsimp only at hSw); go_simp; try with_reducible rfl)
            try simp only [Act.put]
            refine wpAnyH_take (i := 7) (v := ?vr3q7) rfl (by kernel_rfl) (by kernel_rfl) (by kernel_rfl) (fun _ _ _ h => h) (Or.inl ⟨by rfl, ?hyr3q7⟩) (by assumption) ?_
            case hyr3q7 => (intro w hSw; (try dsimp only at hSw); go_simp; try with_reducible rfl)
            try simp only [Act.put]
            refine wpAnyH_take (i := 8) (v := ?vr3q8) rfl (by kernel_rfl) (by kernel_rfl) (by kernel_rfl) (fun _ _ _ h => h) (Or.inl ⟨by rfl, ?hyr3q8⟩) (by assumption) ?_
            case hyr3q8 => (intro w hSw; (try dsimp only at hSw); go_simp; try with_reducible rfl)
            try simp only [Act.put]
            refine wpAnyH_take (i := 9) (v := ?vr3q9) rfl (by kernel_rfl) (by kernel_rfl) (by kernel_rfl) (fun _ _ _ h => h) (Or.inl ⟨by rfl, ?hyr3q9⟩) (by assumption) ?_
            case hyr3q9 => (intro w hSw; (try dsimp only at hSw); go_simp; try with_reducible rfl)
            try simp only [Act.put]
            refine wpAnyH_take (i := 10) (v := ?vr3q10) rfl (by kernel_rfl) (by kernel_rfl) (by kernel_rfl) (fun _ _ _ h => h) (Or.inl ⟨by rfl, ?hyr3q10⟩) (by assumption) ?_
            case hyr3q10 => (intro w hSw; (try dsimp only at hSw); go_simp; try with_reducible rfl)
            try simp only [Act.put]
            refine wpAnyH_take (i := 11) (v := ?vr3q11) rfl (by kernel_rfl) (by kernel_rfl) (by kernel_rfl) (fun _ _ _ h => h) (Or.inl ⟨by rfl, ?hyr3q11⟩) (by assumption) ?_
            case hyr3q11 => (intro w hSw; (try dsimp only at hSw); go_simp; try with_reducible rfl)
            try simp only [Act.put]
            refine wpAnyH_take (i := 12) (v := ?vr3q12) rfl (by kernel_rfl) (by kernel_rfl) (by kernel_rfl) (fun _ _ _ h => h) (Or.inl ⟨by rfl, ?hyr3q12⟩) (by assumption) ?_
            case hyr3q12 => (intro w hSw; (try dsimp only at hSw); go_simp; try with_reducible rfl)
            try simp only [Act.put]
            refine wpAnyH_take (i := 13) (v := ?vr3q13) rfl (by kernel_rfl) (by kernel_rfl) (by kernel_rfl) (fun _ _ _ h => h) (Or.inl ⟨by rfl, ?hyr3q13⟩) (by assumption) ?_
            case hyr3q13 => (intro w hSw; (try dsimp only at hSw); go_simp; try with_reducible rfl)
            try simp only [Act.put]
            refine wpAnyH_take (i := 14) (v := ?vr3q14) rfl (by kernel_rfl) (by kernel_rfl) (by kernel_rfl) (fun _ _ _ h => h) (Or.inl ⟨by rfl, ?hyr3q14⟩) (by assumption) ?_
            case hyr3q14 => (intro w hSw; (try dsimp only at hSw); go_simp; try with_reducible rfl)
            try simp only [Act.put]
            refine wpAnyH_take (i := 15) (v := ?vr3q15) rfl (by kernel_rfl) (by kernel_rfl) (by kernel_rfl) (fun _ _ _ h => h) (Or.inl ⟨by rfl, ?hyr3q15⟩) (by assumption) ?_
            case hyr3q15 => (intro w hSw; (try dsimp only at hSw); go_simp; try with_reducible rfl)
            try simp only [Act.put]
            refine wpAnyH_take (i := 16) (v := ?vr3q16) rfl (by kernel_rfl) (by kernel_rfl) (by kernel_rfl) (fun _ _ _ h => h) (Or.inl ⟨by rfl, ?hyr3q16⟩) (by assumption) ?_
            case hyr3q16 => (intro w hSw; (try dsimp only at hSw); go_simp; try with_reducible rfl)
            try simp only [Act.put]
            refine wpAnyH_take (i := 17) (v := ?vr3q17) rfl (by kernel_rfl) (by kernel_rfl) (by kernel_rfl) (fun _ _ _ h => h) (Or.inl ⟨by rfl, ?hyr3q17⟩) (by assumption) ?_
            case hyr3q17 => (intro w hSw; (try dsimp only at hSw); go_simp; try with_reducible rfl)
            try simp only [Act.put]
            refine wpAnyH_take (i := 18) (v := ?vr3q18) rfl (by kernel_rfl) (by kernel_rfl) (by kernel_rfl) (fun _ _ _ h => h) (Or.inl ⟨by rfl, ?hyr3q18⟩) (by assumption) ?_
            case hyr3q18 => (intro w hSw; (try dsimp only at hSw); go_simp; try with_reducible rfl)
            try simp only [Act.put]
            refine wpAnyH_take (i := 19) (v := ?vr3q19) rfl (by kernel_rfl) (by kernel_rfl) (by kernel_rfl) (fun _ _ _ h => h) (Or.inl ⟨by rfl, ?hyr3q19⟩) (by assumption) ?_
            case hyr3q19 => (intro w hSw; (try dsimp only at hSw); go_simp; try with_reducible rfl)
            try simp only [Act.put]
            refine boxes_run (k := 4) (al := fun i => 20 + i) (st := fun i => 24 + i) (ty := fun _ => 34) (d := fun i => 15 + i) (x := (fun i : Nat => if i = 0 then Operand.tmp 108 else if i = 1 then Operand.tmp 114 else if i = 2 then Operand.tmp 118 else Operand.tmp 124)) (V := fun i => Value.agg ((fun i : Nat => if i = 0 then ptc xa yb else if i = 1 then ptc xa ya else if i = 2 then ptc ub va else ptc ua va) i)) (zc := fun _ => ptz) (vc := (fun i : Nat => if i = 0 then ptc xa yb else if i = 1 then ptc xa ya else if i = 2 then ptc ub va else ptc ua va)) ⟨by kernel_rfl, fun i hi => ?har3, fun i hi => ?hbr3, by kernel_rfl, fun i hi => ?hur3, fun i j hi hj hij => ⟨fun e => hij (Nat.add_left_cancel e), fun e => hij (Nat.add_left_cancel e), fun e => hij (Nat.add_left_cancel e)⟩, fun i j hi hj => (by show 20 + i ≠ 24 + j; omega), fun i hi => ?hdr3, fun i hi a' h => ?hvr3, fun i hi w => alloc_pt w, fun i hi w g h => ?hsr3⟩ (Nat.le_of_ble_eq_true (by kernel_rfl)) rfl ?hSr3 ?her3
            case har3 =>
              match i, hi with
              | 0, _ => exact ⟨_, rfl, rfl, rfl⟩
              | 1, _ => exact ⟨_, rfl, rfl, rfl⟩
              | 2, _ => exact ⟨_, rfl, rfl, rfl⟩
              | 3, _ => exact ⟨_, rfl, rfl, rfl⟩
            case hbr3 =>
              match i, hi with
              | 0, _ => exact ⟨_, rfl, rfl, rfl, by kernel_rfl⟩
              | 1, _ => exact ⟨_, rfl, rfl, rfl, by kernel_rfl⟩
              | 2, _ => exact ⟨_, rfl, rfl, rfl, by kernel_rfl⟩
              | 3, _ => exact ⟨_, rfl, rfl, rfl, by kernel_rfl⟩
            case hur3 =>
              match i, hi with
              | 0, _ => exact ⟨rfl, rfl⟩
              | 1, _ => exact ⟨rfl, rfl⟩
              | 2, _ => exact ⟨rfl, rfl⟩
              | 3, _ => exact ⟨rfl, rfl⟩
            case hdr3 =>
              match i, hi with
              | 0, _ => simp
              | 1, _ => simp
              | 2, _ => simp
              | 3, _ => simp
            case hvr3 =>
              match i, hi with
              | 0, _ => (show a'.tmps.getD 108 undef = _; rw [Array.getD_eq_getD_getElem?, h 108 (fun j hj => (by show 108 ≠ 15 + j; omega))]; simp [ptc])
              | 1, _ => (show a'.tmps.getD 114 undef = _; rw [Array.getD_eq_getD_getElem?, h 114 (fun j hj => (by show 114 ≠ 15 + j; omega))]; simp [ptc])
              | 2, _ => (show a'.tmps.getD 118 undef = _; rw [Array.getD_eq_getD_getElem?, h 118 (fun j hj => (by show 118 ≠ 15 + j; omega))]; simp [ptc])
              | 3, _ => (show a'.tmps.getD 124 undef = _; rw [Array.getD_eq_getD_getElem?, h 124 (fun j hj => (by show 124 ≠ 15 + j; omega))]; simp [ptc])
            case hsr3 =>
              match i, hi with
              | 0, _ => exact store_pt w g _ _ h
              | 1, _ => exact store_pt w g _ _ h
              | 2, _ => exact store_pt w g _ _ h
              | 3, _ => exact store_pt w g _ _ h
            case hSr3 => exact fun w' hb => ⟨(hb.cell (p := ⟨ga, 6, none⟩) la).trans a6, (hb.cell (p := ⟨ga, 7, none⟩) la).trans a7, (hb.cell (p := ⟨ga, 0, none⟩) la).trans a0, (hb.cell (p := ⟨ga, 1, none⟩) la).trans a1, (hb.cell (p := ⟨gc, 6, none⟩) lc).trans c6, (hb.cell (p := ⟨gc, 7, none⟩) lc).trans c7, (hb.cell (p := ⟨gc, 0, none⟩) lc).trans c0, (hb.cell (p := ⟨gc, 1, none⟩) lc).trans c1⟩
            intro g w' hblk hne hbel
            have h0 : Blk w' (g 0) 34 (ptc xa yb) := (hblk 0 (by omega)).2
            have h1 : Blk w' (g 1) 34 (ptc xa ya) := (hblk 1 (by omega)).2
            have h2 : Blk w' (g 2) 34 (ptc ub va) := (hblk 2 (by omega)).2
            have h3 : Blk w' (g 3) 34 (ptc ua va) := (hblk 3 (by omega)).2
            have hbel' : Below wc.heap.size wc w' := ⟨hbel.os, hbel.tape, hbel.output, hbel.size, hbel.block⟩
            have e1 := fa.below hbel' la
            have e2 := fb.below hbel' fb.lt
            have e3 := fc.below hbel' lc
            have e4 : Below w.heap.size w w' := bb.trans (hbel'.mono bb.size)
            simp only [boxed, Act.put, List.setIfInBounds_toArray, Nat.reduceAdd]
            go_wp2_with fail
            go_meet
            exact ⟨g 0, g 1, g 2, g 3, rfl, rfl, rfl, rfl, ⟨h0.cell 0, h0.cell 1, h1.cell 0, h1.cell 1, h2.cell 0, h2.cell 1, h3.cell 0, h3.cell 1⟩, e1, e2, e3, e4⟩
          case rest =>
            clear a6 c6 a7 c7 a0 c0 a1 c1 x1 x2 x3 x4 la lc fa fb fc bb
            obtain ⟨g1, g2, g3, g4, rfl, rfl, rfl, rfl, ⟨p0, p1, p2, p3, p4, p5, p6, p7⟩, fa, fb, fc, bb⟩ := hcut
            have Fa := hide fa
            have Fb := hide fb
            have Fc := hide fc
            have Bb := hide bb
            have n1 : (ua - ub != -(ya - yb)) = false := by rw [Hr3.out]; simp
            clear fa fb fc bb
            go_wp2_with fail
            exact ⟨⟨4, 4, .inr (.inr (.inr (.inr (⟨rfl, rfl⟩)))), rfl, Fa.out, Fb.out, Fc.out, Bb.out⟩, by simp only [intOf]; decide⟩
      · go_wp2_with fail
        go_ret
        exact ⟨rfl, Bb.out⟩

theorem walked : WalkedL Tryd.checked.prog 4 Tryd.f4 [("chancery/shape.quarter", Rows.laid_chancery_shape_quarter)] := by
  intro H enc W args ds ps hval hA hL
  have ht : TabQ W := tabQ_of ⟨_, _, rfl, rfl⟩ (by kernel_rfl) hL
  rw [Tryd.params4] at hA hval
  obtain ⟨v0, l0, d0, m0, p0, q0, e0, _, h0, k0⟩ := Frm.trodAll_cons hA
  obtain ⟨v1, l1, d1, m1, p1, q1, rfl, _, h1, k1⟩ := Frm.trodAll_cons k0
  obtain rfl := Frm.trodAll_nil k1
  obtain rfl : args = #[v0, v1] := by cases args; simp_all
  obtain ⟨A, n, c, G, T, rfl, hn, hr, hwf⟩ := shapes_arg (hval 0 _ _ rfl rfl) h0
  obtain ⟨x, rfl, _, _, wx⟩ := open_int Tryd.underlying3 (hval 1 _ _ rfl rfl) h1
  exact walk A n c G T x W ht hr hn hwf wx

def laidL : List (String × DataW Unit) := [("chancery/shape.quarter", Rows.laid_chancery_shape_quarter)]
theorem door_met (os : Os) (args : Array Value) : laidMetH Tryd.prog laidL ((World.doorLaid Tryd.prog 400 os).forCall (fun _ _ => 0) ⟨#[], args, []⟩).memory :=
  laidMetH_of_parts3 (fuel := 8) (laidMet_of_run' 8 (by kernel_rfl) (by kernel_rfl)) (by kernel_rfl) (by kernel_rfl)

set_option maxRecDepth 100000 in
theorem lifted (os : Os) (started : os.Started) (H : Type) (enc : TypeId × Value → H) :
    ReturnsInHanded {} Tryd.checked os 4 .any (fun w args => (Rows.shapeQuarterTurnsSpec.pre enc Tryd.prog Tryd.f4 [] false w args ∧ laidMetH Tryd.prog laidL w) ∧ sizedMet enc Tryd.prog Tryd.f4 (OpenSpec.ofChange Rows.shapeQuarterTurnsSpec) false w args) (Rows.shapeQuarterTurnsSpec.post enc Tryd.prog Tryd.f4 false true false false) :=
  law_lift_laid (C := Tryd.checked) (tb := 4) (laid := laidL) (by kernel_rfl) started (by kernel_rfl) Tryd.func4 rfl
    (fun ds h => match ds, h with | [_, _], _ => rfl) rfl Tryd.underlying4 (by kernel_rfl) (by kernel_rfl)
    (ChangeSpec.witness_shaped (enc := enc) (C := Tryd.checked) (os := os) (X := fun w _ => laidMetH Tryd.prog laidL w) false (World.doorLaid Tryd.prog 400 os) #[.slice none 0 0, .int .i64 0] 8 rfl (World.shaped_of_RefB (by kernel_rfl) (by kernel_rfl)) (by kernel_rfl) (by kernel_rfl) (by kernel_rfl) (door_met os _))
    walked

theorem said : Rows.ShapeQuarterTurnsSaid :=
  OpenClaim.holds_of_wide 4 Tryd.f4 rfl rfl rfl rfl rfl rfl rfl ⟨rfl, rfl, rfl, rfl, rfl⟩ rfl rfl rfl rfl rfl (by kernel_rfl) Tryd.func4 (by kernel_rfl)
    (of_decide_eq_true (by kernel_rfl)) (by unfold Func.isWrapper; first | (rw [if_pos (by decide +kernel)]; kernel_rfl) | (rw [if_neg (by decide +kernel)]; exact ⟨rfl, rfl⟩))
    (fun os started H enc _ => lifted os started H enc)

/-- THE STATEMENT: the tied card -/
theorem proved : Rows.ShapeQuarterTurnsCardSaid :=
  Claim7.holds_tied_plain_at .later [] [.data] true (true, "0033d5c4f99aef9b82c08da9c1357e50926af6b85babfc5968ccf75c8792d8fc") false
    said (fun _ h => by cases h) (by kernel_rfl) (fun _ h => by cases h) shapeQuarterTurns_row_tie rfl ⟨rfl, rfl⟩ (by kernel_rfl) rfl
    (fun f fn hf hfn => by
      obtain rfl : f = 4 := Option.some.inj ((show Tryd.prog.funcNamed "chancery/chancerykeep3.ShapeQuarterTurns" = some 4 by kernel_rfl).symm.trans hf) |>.symm
      obtain rfl : fn = Tryd.f4 := (Option.some.inj (Tryd.func4.symm.trans hfn)).symm
      exact ⟨by kernel_rfl, fun j t ht => by
        have hm : t ∈ Tryd.f4.params.toList := by simpa using Array.mem_of_getElem? ht
        have hall : (Tryd.f4.params.toList.all fun u => !Tryd.prog.wantsStandIn u) = true := by kernel_rfl
        exact (show Tryd.prog.wantsStandIn t = false by simpa using List.all_eq_true.1 hall t hm)⟩)
    (by kernel_rfl)
#print axioms proved
end Go.Proofs.YtnmikhmbnpiadaaDoor.ShapeQuarterTurnsDone
