/- The contract of shape.Hit, in drawings without turns. -/
import Derived.Test.YtnmikhmbnpiadaaDoorShapeInside
import Derived.Test.YtnmikhmbnpiadaaDoorShapeCheck
import Derived.Test.YtnmikhmbnpiadaaDoorShapePt
namespace Go.Proofs.YtnmikhmbnpiadaaDoor.Shp
open Go.RowKit Go.Frm

/-- does a point hit shape k -/
def hitB (G : Nat → Nat → Int) (Dx Dy : Nat → Int) (px py : Int) (k : Nat) : Bool := G k 2 != 5 && G k 2 != 6 && insB G k (px - Dx k) (py - Dy k)
def LastHit (G : Nat → Nat → Int) (h : Nat → Bool) (n : Nat) (r : Int) : Prop := (∃ k, k < n ∧ h k = true ∧ (∀ j, k < j → j < n → h j = false) ∧ r = G k 0) ∨ ((∀ j, j < n → h j = false) ∧ r = 0)
theorem lastHit (G : Nat → Nat → Int) (h : Nat → Bool) : ∀ n, ∃ r, LastHit G h n r
  | 0 => ⟨0, .inr ⟨fun j hj => by omega, rfl⟩⟩
  | n + 1 => by
    cases hn : h n with
    | true => exact ⟨G n 0, .inl ⟨n, by omega, hn, fun j h1 h2 => by omega, rfl⟩⟩
    | false =>
      obtain ⟨r, ⟨k, h1, h2, h3, h4⟩ | ⟨h1, h2⟩⟩ := lastHit G h n
      · refine ⟨r, .inl ⟨k, by omega, h2, fun j a b => ?_, h4⟩⟩
        by_cases e : j = n
        · rw [e]; exact hn
        · exact h3 j a (by omega)
      · refine ⟨r, .inr ⟨fun j hj => ?_, h2⟩⟩
        by_cases e : j = n
        · rw [e]; exact hn
        · exact h1 j (by omega)
/-- where the groups of all shapes begin -/
def Moves (G : Nat → Nat → Int) (n : Nat) (Dx Dy : Nat → Int) : Prop := ∀ k, k < n → Mv G k (Dx k) (Dy k) ∧ (Dx k).natAbs ≤ 1048576 * k ∧ (Dy k).natAbs ≤ 1048576 * k
theorem moves {G : Nat → Nat → Int} {n : Nat} (ho : ShOk G n) : ∃ Dx Dy, Moves G n Dx Dy := by
  have h : ∀ k, ∃ d : Int × Int, k < n → Mv G k d.1 d.2 ∧ d.1.natAbs ≤ 1048576 * k ∧ d.2.natAbs ≤ 1048576 * k := fun k => by
    by_cases hk : k < n
    · obtain ⟨dx, dy, h⟩ := mv_ex ho k hk
      exact ⟨(dx, dy), fun _ => h⟩
    · exact ⟨(0, 0), fun h => absurd h hk⟩
  obtain ⟨f, hf⟩ := Classical.skolem.1 h
  exact ⟨fun k => (f k).1, fun k => (f k).2, fun k hk => hf k hk⟩

set_option maxRecDepth 100000 in
set_option maxHeartbeats 8000000 in
theorem Hit_ok (A : Option Addr) (n c : Nat) (G : Nat → Nat → Int) (T : Nat → Nat → ByteArray) (Dx Dy : Nat → Int) (px py r : Int) (w : World) (hq : TabQ w) (ho : ShOk G n) (hz : ∀ i, i < n → G i 7 = 0) (hmv : Moves G n Dx Dy) (hr : RdF w A n 12 (shV G T)) (hnc : n ≤ c)
    (x0 : -1048576 ≤ px) (x1 : px ≤ 1048576) (y0 : -1048576 ≤ py) (y1 : py ≤ 1048576) (hl : LastHit G (hitB G Dx Dy px py) n r) :
    Calls Tryd.prog 14 #[.slice A n c, .agg (ptc px py)] w fun e w' => e = .returned (.tuple #[.int .i64 r, .int .i64 0]) ∧ Below w.heap.size w w' := by
  have hn := ho.few
  have hp0 : Blk (w.alloc (.cells (ptc px py) 34)) w.heap.size 34 (ptc px py) := Blk.new w _ _
  have hb0 : Below w.heap.size w (w.alloc (.cells (ptc px py) 34)) := (Below.refl _ _).alloc (Nat.le_refl _) _
  have Hch := hide (check_ok A n c G T _ ho (hr.below hb0) hnc)
  have Hq := hide hq
  have Ho := hide ho
  have Hz := hide hz
  have Hmv := hide hmv
  have Hl := hide hl
  have hd : ∀ k, hitB G Dx Dy px py k = (G k 2 != 5 && G k 2 != 6 && insB G k (px - Dx k) (py - Dy k)) := fun _ => rfl
  have Hd := hide hd
  generalize hitB G Dx Dy px py = hit at *
  clear hq ho hz hmv hl hd
  unfold ptc at *
  go_enter Tryd.func14, Tryd.ntmps14
  go_wp2_with fail
  refine Hch.out.mono ?_
  rintro e w1 ⟨rfl, hb1⟩
  have hp1 := hp0.below hb1 hp0.lt
  have hbl1 := hb0.trans (hb1.mono hb0.size)
  have q0 : w1.cell? ⟨w.heap.size, 0, none⟩ = some (.int .i64 px) := hp1.cell 0
  have q1 : w1.cell? ⟨w.heap.size, 1, none⟩ = some (.int .i64 py) := hp1.cell 1
  clear hp0 hb0 hb1 Hch
  go_wp2_with fail
  go_loopg [7] n (fun j a wr => ∃ z : Int, z + 1 = (j : Int) ∧ j ≤ n ∧ a = .int .i64 z ∧ Hid (∀ i, j ≤ i → i < n → hit i = false) ∧ Blk wr w.heap.size 34 #[.int .i64 px, .int .i64 py] ∧ Below w.heap.size w wr)
  case atStart => exact ⟨(n : Int) - 1, by omega, Nat.le_refl _, rfl, (fun i h1 h2 => by omega), hp1, hbl1⟩
  case round =>
    clear hp1 hbl1 q0 q1
    obtain ⟨z, hzj, hjn, rfl, Hno, hp, hbl⟩ := hrel
    rcases Nat.eq_zero_or_pos gk with h0 | h0
    · have hz1 : z = -1 := by omega
      subst hz1
      have hr0 : Hid (r = 0) := by
        rcases Hl.out with ⟨k, h1, h2, _, _⟩ | ⟨_, h2⟩
        · rw [Hno.out k (by omega) h1] at h2; cases h2
        · exact h2
      clear hzj
      go_wp2_with fail
      go_ret2
      exact ⟨by rw [hr0.out]; rfl, hbl⟩
    · obtain ⟨k, hk⟩ : ∃ k : Nat, gk = k + 1 := ⟨gk - 1, by omega⟩
      subst hk
      obtain rfl : z = (k : Int) := by omega
      have hkn : k < n := by omega
      have hkn2 : (k : Int) < (n : Int) := by omega
      clear hzj h0
      obtain ⟨m1, m2, m3⟩ := Hmv.out k hkn
      have hloc := hide (fun wx (qx : TabQ wx) (rx : RdF wx A n 12 (shV G T)) => local_ok n G T Ho.out Hz.out k (Dx k) (Dy k) hkn m1 m2 m3 A c px py (by omega) (by omega) wx qx rx)
      have hins := hide (fun wx => inside_ok n G T Ho.out k hkn (px - Dx k) (py - Dy k) (by omega) (by omega) wx)
      obtain ⟨i1, i2⟩ := Ho.out.item k hkn
      obtain ⟨b, off, rfl, k0, k1, k2, k3, k4, k5, k6, k7, k8, k9, k10, k11⟩ := cells12 (hr.below hbl) hkn
      go_upto_region 10 with fail
      have bs : Blk (wr.alloc (.cells #[.int .i64 (G k 0), .int .i64 (G k 1), .int .i64 (G k 2), .int .i64 (G k 3), .int .i64 (G k 4), .int .i64 (G k 5), .int .i64 (G k 6), .int .i64 (G k 7), .int .i64 (G k 8), .int .i64 (G k 9), .string (T k 10), .string (T k 11)] 23)) wr.heap.size 23 (shC G T k) := Blk.new wr _ _
      have hp2 := hp.alloc (.cells #[.int .i64 (G k 0), .int .i64 (G k 1), .int .i64 (G k 2), .int .i64 (G k 3), .int .i64 (G k 4), .int .i64 (G k 5), .int .i64 (G k 6), .int .i64 (G k 7), .int .i64 (G k 8), .int .i64 (G k 9), .string (T k 10), .string (T k 11)] 23)
      have hbl2 := hbl.alloc hbl.size (.cells #[.int .i64 (G k 0), .int .i64 (G k 1), .int .i64 (G k 2), .int .i64 (G k 3), .int .i64 (G k 4), .int .i64 (G k 5), .int .i64 (G k 6), .int .i64 (G k 7), .int .i64 (G k 8), .int .i64 (G k 9), .string (T k 10), .string (T k 11)] 23)
      clear k0 k1 k2 k3 k4 k5 k6 k7 k8 k9 k10 k11 hp hbl m1 m2 m3
      generalize wr.alloc (.cells #[.int .i64 (G k 0), .int .i64 (G k 1), .int .i64 (G k 2), .int .i64 (G k 3), .int .i64 (G k 4), .int .i64 (G k 5), .int .i64 (G k 6), .int .i64 (G k 7), .int .i64 (G k 8), .int .i64 (G k 9), .string (T k 10), .string (T k 11)] 23) = w2 at *
      generalize wr.heap.size = g at *
      have p0 : w2.cell? ⟨g, 0, none⟩ = some (.int .i64 (G k 0)) := bs.cell 0
      have p1 : w2.cell? ⟨g, 1, none⟩ = some (.int .i64 (G k 1)) := bs.cell 1
      have p2 : w2.cell? ⟨g, 2, none⟩ = some (.int .i64 (G k 2)) := bs.cell 2
      have p3 : w2.cell? ⟨g, 3, none⟩ = some (.int .i64 (G k 3)) := bs.cell 3
      have p4 : w2.cell? ⟨g, 4, none⟩ = some (.int .i64 (G k 4)) := bs.cell 4
      have p5 : w2.cell? ⟨g, 5, none⟩ = some (.int .i64 (G k 5)) := bs.cell 5
      have p6 : w2.cell? ⟨g, 6, none⟩ = some (.int .i64 (G k 6)) := bs.cell 6
      have p7 : w2.cell? ⟨g, 7, none⟩ = some (.int .i64 (G k 7)) := bs.cell 7
      have p8 : w2.cell? ⟨g, 8, none⟩ = some (.int .i64 (G k 8)) := bs.cell 8
      have p9 : w2.cell? ⟨g, 9, none⟩ = some (.int .i64 (G k 9)) := bs.cell 9
      have p10 : w2.cell? ⟨g, 10, none⟩ = some (.string (T k 10)) := bs.cell 10
      have p11 : w2.cell? ⟨g, 11, none⟩ = some (.string (T k 11)) := bs.cell 11
      have q0 : w2.cell? ⟨w.heap.size, 0, none⟩ = some (.int .i64 px) := hp2.cell 0
      have q1 : w2.cell? ⟨w.heap.size, 1, none⟩ = some (.int .i64 py) := hp2.cell 1
      have hsuc : hit k = false → Hid (∀ i, k ≤ i → i < n → hit i = false) := fun h i a b => by
        by_cases e : i = k
        · rw [e]; exact h
        · exact Hno.out i (by omega) b
      have hdk := Hd.out k
      by_cases c5 : G k 2 = 5
      · have d5 : (G k 2 == 5) = true := by simpa using c5
        have Hs := hsuc (by rw [hdk]; simp [c5])
        clear hsuc hdk c5
        go_wp2_with fail
        go_roundg k
        case measure => omega
        case rel => exact ⟨(k : Int) - 1, by omega, by omega, rfl, Hs, hp2, hbl2⟩
      have d5 : (G k 2 == 5) = false := by simpa using c5
      by_cases c6 : G k 2 = 6
      · have d6 : (G k 2 == 6) = true := by simpa using c6
        have Hs := hsuc (by rw [hdk]; simp [c6])
        clear hsuc hdk c5 c6
        go_wp2_with fail
        go_roundg k
        case measure => omega
        case rel => exact ⟨(k : Int) - 1, by omega, by omega, rfl, Hs, hp2, hbl2⟩
      have d6 : (G k 2 == 6) = false := by simpa using c6
      have hdk2 : hit k = insB G k (px - Dx k) (py - Dy k) := by rw [hdk]; simp [c5, c6]
      have Hloc := hloc.out w2 (Hq.out.below hbl2) (hr.below hbl2)
      unfold shA at Hloc
      have HLoc := hide Hloc
      have Hdk2 := hide hdk2
      have Hsuc := hide hsuc
      clear hdk hsuc hdk2 c5 c6 Hloc
      go_wp2_with fail
      refine HLoc.out.mono ?_
      rintro e w3 ⟨rfl, hb3⟩
      have bs3 := bs.below hb3 bs.lt
      have hp3 := hp2.below hb3 hp2.lt
      have hbl3 := hbl2.trans (hb3.mono hbl2.size)
      clear p0 p1 p2 p3 p4 p5 p6 p7 p8 p9 p10 p11 q0 q1 bs hp2
      have r0 : w3.cell? ⟨g, 0, none⟩ = some (.int .i64 (G k 0)) := bs3.cell 0
      have r1 : w3.cell? ⟨g, 1, none⟩ = some (.int .i64 (G k 1)) := bs3.cell 1
      have r2 : w3.cell? ⟨g, 2, none⟩ = some (.int .i64 (G k 2)) := bs3.cell 2
      have r3 : w3.cell? ⟨g, 3, none⟩ = some (.int .i64 (G k 3)) := bs3.cell 3
      have r4 : w3.cell? ⟨g, 4, none⟩ = some (.int .i64 (G k 4)) := bs3.cell 4
      have r5 : w3.cell? ⟨g, 5, none⟩ = some (.int .i64 (G k 5)) := bs3.cell 5
      have r6 : w3.cell? ⟨g, 6, none⟩ = some (.int .i64 (G k 6)) := bs3.cell 6
      have r7 : w3.cell? ⟨g, 7, none⟩ = some (.int .i64 (G k 7)) := bs3.cell 7
      have r8 : w3.cell? ⟨g, 8, none⟩ = some (.int .i64 (G k 8)) := bs3.cell 8
      have r9 : w3.cell? ⟨g, 9, none⟩ = some (.int .i64 (G k 9)) := bs3.cell 9
      have r10 : w3.cell? ⟨g, 10, none⟩ = some (.string (T k 10)) := bs3.cell 10
      have r11 : w3.cell? ⟨g, 11, none⟩ = some (.string (T k 11)) := bs3.cell 11
      have Hins := hins.out w3
      unfold shA at Hins
      cases hb : insB G k (px - Dx k) (py - Dy k) with
      | true =>
        rw [hb] at Hins
        have HIns := hide Hins
        have hrk : Hid (r = G k 0) := by
          rcases Hl.out with ⟨k', h1, h2, h3, h4⟩ | ⟨h1, _⟩
          · rcases Nat.lt_trichotomy k' k with h5 | h5 | h5
            · have := h3 k h5 hkn
              rw [Hdk2.out, hb] at this
              cases this
            · exact h4.trans (by rw [h5])
            · rw [Hno.out k' (by omega) h1] at h2
              cases h2
          · have := h1 k hkn
            rw [Hdk2.out, hb] at this
            cases this
        have Hb := hide hb
        clear Hins hb
        go_wp2_with fail
        refine HIns.out.mono ?_
        rintro e w4 ⟨rfl, hb4⟩
        have bs4 := bs3.below hb4 bs3.lt
        have s0 : w4.cell? ⟨g, 0, none⟩ = some (.int .i64 (G k 0)) := bs4.cell 0
        go_wp2_with fail
        go_ret2
        exact ⟨by rw [hrk.out]; rfl, hbl3.trans (hb4.mono hbl3.size)⟩
      | false =>
        rw [hb] at Hins
        have HIns := hide Hins
        have Hs := Hsuc.out (by rw [Hdk2.out, hb])
        clear Hins hb
        go_wp2_with fail
        refine HIns.out.mono ?_
        rintro e w4 ⟨rfl, hb4⟩
        have hp4 := hp3.below hb4 hp3.lt
        go_wp2_with fail
        go_roundg k
        case measure => omega
        case rel => exact ⟨(k : Int) - 1, by omega, by omega, rfl, Hs, hp4, hbl3.trans (hb4.mono hbl3.size)⟩
end Go.Proofs.YtnmikhmbnpiadaaDoor.Shp
