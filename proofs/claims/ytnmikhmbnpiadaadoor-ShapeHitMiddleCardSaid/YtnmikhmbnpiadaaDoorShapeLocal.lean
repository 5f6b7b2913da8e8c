/- Contracts of package shape: local, in drawings without turns. -/
import Derived.Test.YtnmikhmbnpiadaaDoorShapeQuarterPlain
namespace Go.Proofs.YtnmikhmbnpiadaaDoor.Shp
open Go.RowKit Go.Frm

/-- where the group of a shape begins, in a drawing without turns -/
inductive Mv (G : Nat → Nat → Int) : Nat → Int → Int → Prop
  | top (k : Nat) (h : G k 1 = 0) : Mv G k 0 0
  | within (k p : Nat) (dx dy : Int) (hp : p < k) (hg : G p 0 = G k 1) (hne : G k 1 ≠ 0) (h : Mv G p dx dy) : Mv G k (dx + G p 3) (dy + G p 4)
theorem mv_ex {G : Nat → Nat → Int} {n : Nat} (ho : ShOk G n) : ∀ k, k < n → ∃ dx dy, Mv G k dx dy ∧ dx.natAbs ≤ 1048576 * k ∧ dy.natAbs ≤ 1048576 * k := by
  intro k
  induction k using Nat.strongRecOn with
  | _ k ih =>
    intro hk
    rcases ho.grp k hk with h | ⟨p, hp, hg, _⟩
    · exact ⟨0, 0, Mv.top k h, by simp, by simp⟩
    · obtain ⟨dx, dy, h1, h2, h3⟩ := ih p hp (by omega)
      obtain ⟨⟨x1, x2⟩, ⟨y1, y2⟩⟩ := ho.xy p (by omega)
      have hi := ho.item p (by omega)
      exact ⟨_, _, Mv.within k p dx dy hp hg (by omega) h1, by omega, by omega⟩

theorem mv_one {G : Nat → Nat → Int} {n : Nat} (ho : ShOk G n) : ∀ {k : Nat} {dx dy ex ey : Int}, k < n → Mv G k dx dy → Mv G k ex ey → dx = ex ∧ dy = ey := by
  intro k dx dy ex ey hk h
  induction h generalizing ex ey with
  | top k h =>
    intro h2
    cases h2 with
    | top _ _ => exact ⟨rfl, rfl⟩
    | within _ p _ _ _ _ hne _ => exact absurd h hne
  | within k p dx dy hp hg hne h ih =>
    intro h2
    cases h2 with
    | top _ h0 => exact absurd h0 hne
    | within _ p2 ex ey hp2 hg2 _ h3 =>
      have hpp : p = p2 := by
        rcases Nat.lt_trichotomy p p2 with h4 | h4 | h4
        · exact absurd (hg.trans hg2.symm) (ho.one p p2 h4 (by omega))
        · exact h4
        · exact absurd (hg2.trans hg.symm) (ho.one p2 p h4 (by omega))
      subst hpp
      obtain ⟨e1, e2⟩ := ih (by omega) h3
      rw [e1, e2]
      exact ⟨rfl, rfl⟩

set_option maxRecDepth 100000 in
set_option maxHeartbeats 8000000 in
theorem local_ok (n : Nat) (G : Nat → Nat → Int) (T : Nat → Nat → ByteArray) (ho : ShOk G n) (hz : ∀ i, i < n → G i 7 = 0) (k : Nat) : ∀ (dx dy : Int) (hk : k < n) (hm : Mv G k dx dy) (h1 : dx.natAbs ≤ 1048576 * k) (h2 : dy.natAbs ≤ 1048576 * k)
    (A : Option Addr) (c : Nat) (x y : Int) (hx : x.natAbs ≤ 10000000) (hy : y.natAbs ≤ 10000000) (w : World) (hq : TabQ w) (hr : RdF w A n 12 (shV G T)),
    Calls Tryd.prog 25 #[.slice A n c, shA G T k, .int .i64 x, .int .i64 y] w fun e w' => e = .returned (.tuple #[.int .i64 (x - dx), .int .i64 (y - dy)]) ∧ Below w.heap.size w w' := by
  induction k using Nat.strongRecOn with
  | _ k ih =>
    intro dx dy hk hm h1 h2 A c x y hx hy w hq hr
    have hn := ho.few
    obtain ⟨⟨x1, x2⟩, ⟨y1, y2⟩⟩ := ho.xy k hk
    obtain ⟨⟨v1, v2⟩, ⟨u1, u2⟩⟩ := ho.wh k hk
    have ht0 := hz k hk
    have hneg : -(G k 7) = 0 := by omega
    have htu := fun wx qx => turned_ok (x - dx) (y - dy) (2 * G k 3 + G k 5) (2 * G k 4 + G k 6) (-(G k 7)) wx qx (by omega) (by omega) (by omega) (by omega) (by omega)
    rw [show tuX (x - dx) (y - dy) (2 * G k 3 + G k 5) (2 * G k 4 + G k 6) (-(G k 7)) = x - dx by rw [hneg]; exact (tu_zero _ _ _ _).1, show tuY (x - dx) (y - dy) (2 * G k 3 + G k 5) (2 * G k 4 + G k 6) (-(G k 7)) = y - dy by rw [hneg]; exact (tu_zero _ _ _ _).2] at htu
    have t1 : 0 ≤ G k 7 := by omega
    have t2 : G k 7 ≤ 3600 := by omega
    clear hneg ht0
    have Htu := hide htu
    have Hq := hide hq
    have hb0 : Blk (w.alloc (.cells #[.int .i64 (G k 0), .int .i64 (G k 1), .int .i64 (G k 2), .int .i64 (G k 3), .int .i64 (G k 4), .int .i64 (G k 5), .int .i64 (G k 6), .int .i64 (G k 7), .int .i64 (G k 8), .int .i64 (G k 9), .string (T k 10), .string (T k 11)] 23)) w.heap.size 23 (shC G T k) := Blk.new w _ _
    have hbel0 : Below w.heap.size w (w.alloc (.cells #[.int .i64 (G k 0), .int .i64 (G k 1), .int .i64 (G k 2), .int .i64 (G k 3), .int .i64 (G k 4), .int .i64 (G k 5), .int .i64 (G k 6), .int .i64 (G k 7), .int .i64 (G k 8), .int .i64 (G k 9), .string (T k 10), .string (T k 11)] 23)) := (Below.refl _ _).alloc (Nat.le_refl _) _
    cases hm with
    | top _ h =>
      have hz1 : (G k 1 != 0) = false := by simpa using h
      have hqb := hide (hq.below hbel0)
      have Hbel0 := hide hbel0
      clear ih ho hz htu hq h1 h2 hbel0 hb0 h
      rw [Int.sub_zero, Int.sub_zero] at Htu
      rw [Int.sub_zero, Int.sub_zero]
      unfold shA
      go_enter Tryd.func25, Tryd.ntmps25
      go_wp2_with fail
      refine (Htu.out _ hqb.out).mono ?_
      rintro e w1 ⟨rfl, d, rfl⟩
      go_wp2_with fail
      go_ret2
      exact ⟨rfl, below_drewN Hbel0.out d⟩
    | within _ p ex ey hp hg hne h =>
      have hz1 : (G k 1 != 0) = true := by simpa using hne
      have hpn : p < n := by omega
      obtain ⟨ex1, ey1, hmm, hb1, hb2⟩ := mv_ex ho p hpn
      obtain ⟨rfl, rfl⟩ : ex1 = ex ∧ ey1 = ey := mv_one ho hpn hmm h
      obtain ⟨⟨px1, px2⟩, ⟨py1, py2⟩⟩ := ho.xy p hpn
      have Hfi := hide (find_ok A n c G T (G k 1) _ (hr.below hbel0) (by omega) (p : Int) (hg ▸ firstAt_of ho hpn))
      have Hih := hide (fun wx (qx : TabQ wx) rx => ih p hp ex1 ey1 hpn h hb1 hb2 A c x y hx hy wx qx rx)
      clear ih ho hz htu hq h1 h2 hmm hg hne h
      unfold shA
      go_enter Tryd.func25, Tryd.ntmps25
      go_wp2_with fail
      refine Hfi.out.mono ?_
      rintro e w1 ⟨rfl, hf1⟩
      have hbl1 := hbel0.trans (hf1.mono hbel0.size)
      have b1 := hb0.below hf1 hb0.lt
      obtain ⟨b, off, rfl, k0, k1, k2, k3, k4, k5, k6, k7, k8, k9, k10, k11⟩ := cells12 (hr.below hbl1) hpn
      go_upto_region 3 with fail
      have bk2 := b1.alloc (.cells #[.int .i64 (G p 0), .int .i64 (G p 1), .int .i64 (G p 2), .int .i64 (G p 3), .int .i64 (G p 4), .int .i64 (G p 5), .int .i64 (G p 6), .int .i64 (G p 7), .int .i64 (G p 8), .int .i64 (G p 9), .string (T p 10), .string (T p 11)] 23)
      have bp2 : Blk (w1.alloc (.cells #[.int .i64 (G p 0), .int .i64 (G p 1), .int .i64 (G p 2), .int .i64 (G p 3), .int .i64 (G p 4), .int .i64 (G p 5), .int .i64 (G p 6), .int .i64 (G p 7), .int .i64 (G p 8), .int .i64 (G p 9), .string (T p 10), .string (T p 11)] 23)) w1.heap.size 23 (shC G T p) := Blk.new w1 _ _
      have hbl2 := hbl1.alloc hbl1.size (.cells #[.int .i64 (G p 0), .int .i64 (G p 1), .int .i64 (G p 2), .int .i64 (G p 3), .int .i64 (G p 4), .int .i64 (G p 5), .int .i64 (G p 6), .int .i64 (G p 7), .int .i64 (G p 8), .int .i64 (G p 9), .string (T p 10), .string (T p 11)] 23)
      have hl1 := b1.lt
      clear k0 k1 k2 k3 k4 k5 k6 k7 k8 k9 k10 k11 hf1 b1 hb0 hbel0
      generalize w1.alloc (.cells #[.int .i64 (G p 0), .int .i64 (G p 1), .int .i64 (G p 2), .int .i64 (G p 3), .int .i64 (G p 4), .int .i64 (G p 5), .int .i64 (G p 6), .int .i64 (G p 7), .int .i64 (G p 8), .int .i64 (G p 9), .string (T p 10), .string (T p 11)] 23) = w2 at *
      generalize w1.heap.size = g at *
      have p0 : w2.cell? ⟨g, 0, none⟩ = some (.int .i64 (G p 0)) := bp2.cell 0
      have p1 : w2.cell? ⟨g, 1, none⟩ = some (.int .i64 (G p 1)) := bp2.cell 1
      have p2 : w2.cell? ⟨g, 2, none⟩ = some (.int .i64 (G p 2)) := bp2.cell 2
      have p3 : w2.cell? ⟨g, 3, none⟩ = some (.int .i64 (G p 3)) := bp2.cell 3
      have p4 : w2.cell? ⟨g, 4, none⟩ = some (.int .i64 (G p 4)) := bp2.cell 4
      have p5 : w2.cell? ⟨g, 5, none⟩ = some (.int .i64 (G p 5)) := bp2.cell 5
      have p6 : w2.cell? ⟨g, 6, none⟩ = some (.int .i64 (G p 6)) := bp2.cell 6
      have p7 : w2.cell? ⟨g, 7, none⟩ = some (.int .i64 (G p 7)) := bp2.cell 7
      have p8 : w2.cell? ⟨g, 8, none⟩ = some (.int .i64 (G p 8)) := bp2.cell 8
      have p9 : w2.cell? ⟨g, 9, none⟩ = some (.int .i64 (G p 9)) := bp2.cell 9
      have p10 : w2.cell? ⟨g, 10, none⟩ = some (.string (T p 10)) := bp2.cell 10
      have p11 : w2.cell? ⟨g, 11, none⟩ = some (.string (T p 11)) := bp2.cell 11
      have Hl := Hih.out w2 (Hq.out.below hbl2) (hr.below hbl2)
      unfold shA at Hl
      have HL := hide Hl
      clear Hl
      go_wp2_with fail
      refine HL.out.mono ?_
      rintro e w3 ⟨rfl, hb3⟩
      have hbl3 := hbl2.trans (hb3.mono hbl2.size)
      have bk3 := bk2.below hb3 bk2.lt
      have bp3 := bp2.below hb3 bp2.lt
      clear p0 p1 p2 p3 p4 p5 p6 p7 p8 p9 p10 p11 bp2 bk2 hb3
      have m3 : w3.cell? ⟨g, 3, none⟩ = some (.int .i64 (G p 3)) := bp3.cell 3
      have m4 : w3.cell? ⟨g, 4, none⟩ = some (.int .i64 (G p 4)) := bp3.cell 4
      have s1 : IntKind.i64.wrap (x - ex1 - G p 3) = x - (ex1 + G p 3) := by rw [show x - ex1 - G p 3 = x - (ex1 + G p 3) by omega]; exact IntWalk.i64_in _ (by omega)
      have s2 : IntKind.i64.wrap (y - ey1 - G p 4) = y - (ey1 + G p 4) := by rw [show y - ey1 - G p 4 = y - (ey1 + G p 4) by omega]; exact IntWalk.i64_in _ (by omega)
      have Bk := hide bk3
      have Hbl := hide hbl3
      clear bk3 bp3 hbl3
      go_upto_region 4 with fail
      go_quiet (fail)
      have q3 : w3.cell? ⟨w.heap.size, 3, none⟩ = some (.int .i64 (G k 3)) := Bk.out.cell 3
      have q4 : w3.cell? ⟨w.heap.size, 4, none⟩ = some (.int .i64 (G k 4)) := Bk.out.cell 4
      have q5 : w3.cell? ⟨w.heap.size, 5, none⟩ = some (.int .i64 (G k 5)) := Bk.out.cell 5
      have q6 : w3.cell? ⟨w.heap.size, 6, none⟩ = some (.int .i64 (G k 6)) := Bk.out.cell 6
      have q7 : w3.cell? ⟨w.heap.size, 7, none⟩ = some (.int .i64 (G k 7)) := Bk.out.cell 7
      go_wp2_with fail
      refine (Htu.out _ ((Hq.out.below Hbl.out).drewN _)).mono ?_
      rintro e w4 ⟨rfl, d, rfl⟩
      go_wp2_with fail
      go_ret2
      exact ⟨rfl, below_drewN Hbl.out _⟩
end Go.Proofs.YtnmikhmbnpiadaaDoor.Shp
