/- Contracts of package shape: corners. -/
import Derived.Test.YtnmikhmbnpiadaaDoorShapeOut
namespace Go.Proofs.YtnmikhmbnpiadaaDoor.Shp
open Go.RowKit Go.Frm

/-- the corners of a shape that is not turned, clockwise from the upper left one on -/
def crX (G : Nat → Nat → Int) (k i : Nat) : Int := if i = 1 ∨ i = 2 then G k 3 + G k 5 else G k 3
def crY (G : Nat → Nat → Int) (k i : Nat) : Int := if i = 2 ∨ i = 3 then G k 4 + G k 6 else G k 4
/-- the corners in the coordinates of the group -/
def ctX (G : Nat → Nat → Int) (k i : Nat) : Int := tuX (crX G k i) (crY G k i) (2 * G k 3 + G k 5) (2 * G k 4 + G k 6) (G k 7)
def ctY (G : Nat → Nat → Int) (k i : Nat) : Int := tuY (crX G k i) (crY G k i) (2 * G k 3 + G k 5) (2 * G k 4 + G k 6) (G k 7)
/-- four points are the corners of shape k in the drawing -/
def CornersAt (G : Nat → Nat → Int) (n k : Nat) (px py : Nat → Int) : Prop := ∀ i, i < 4 → ∃ q, Out G n q (G k 1) (ctX G k i) (ctY G k i) (px i) (py i)
def ptsA (px py : Nat → Int) : Value := .agg #[.int .i64 (px 0), .int .i64 (py 0), .int .i64 (px 1), .int .i64 (py 1), .int .i64 (px 2), .int .i64 (py 2), .int .i64 (px 3), .int .i64 (py 3)]

def pz (p : Nat → Int) (m j : Nat) : Int := if j < m then p j else 0
/-- the cells of four points of which m are known -/
def ptC (px py : Nat → Int) (m : Nat) : Array Value := #[.int .i64 (pz px m 0), .int .i64 (pz py m 0), .int .i64 (pz px m 1), .int .i64 (pz py m 1), .int .i64 (pz px m 2), .int .i64 (pz py m 2), .int .i64 (pz px m 3), .int .i64 (pz py m 3)]
def Nth (m : Nat) (z : Int) : Prop := (m = 0 ∧ z = 0) ∨ (m = 1 ∧ z = 1) ∨ (m = 2 ∧ z = 2) ∨ (m = 3 ∧ z = 3) ∨ (m = 4 ∧ z = 4)

set_option maxRecDepth 100000 in
set_option maxHeartbeats 4000000 in
theorem corners_ok (A : Option Addr) (n c k : Nat) (G : Nat → Nat → Int) (T : Nat → Nat → ByteArray) (px py : Nat → Int) (w : World) (hq : TabQ w) (ho : ShOk G n) (hr : RdF w A n 12 (shV G T)) (hk : k < n) (hc : CornersAt G n k px py) :
    Calls Tryd.prog 24 #[.slice A n c, shA G T k] w fun e w' => e = .returned (ptsA px py) ∧ Below w.heap.size w w' := by
  obtain ⟨⟨x1, x2⟩, ⟨y1, y2⟩⟩ := ho.xy k hk
  obtain ⟨⟨v1, v2⟩, ⟨h1, h2⟩⟩ := ho.wh k hk
  obtain ⟨t1, t2⟩ := ho.turn k hk
  have Ho := hide ho
  have Hq := hide hq
  have Hc := hide hc
  clear ho hq hc
  unfold shA
  go_enter Tryd.func24, Tryd.ntmps24
  go_upto_region 2 with fail
  have b0 : Blk (((w.alloc (.cells #[.int .i64 (G k 0), .int .i64 (G k 1), .int .i64 (G k 2), .int .i64 (G k 3), .int .i64 (G k 4), .int .i64 (G k 5), .int .i64 (G k 6), .int .i64 (G k 7), .int .i64 (G k 8), .int .i64 (G k 9), .string (T k 10), .string (T k 11)] 23)).alloc (.cells #[.int .i64 0, .int .i64 0, .int .i64 0, .int .i64 0, .int .i64 0, .int .i64 0, .int .i64 0, .int .i64 0] 54)).alloc (.cells #[.int .i64 0, .int .i64 0, .int .i64 0, .int .i64 0, .int .i64 0, .int .i64 0, .int .i64 0, .int .i64 0] 54)) w.heap.size 23 (shC G T k) := ((Blk.new w _ _).alloc _).alloc _
  have b4 : Blk (((w.alloc (.cells #[.int .i64 (G k 0), .int .i64 (G k 1), .int .i64 (G k 2), .int .i64 (G k 3), .int .i64 (G k 4), .int .i64 (G k 5), .int .i64 (G k 6), .int .i64 (G k 7), .int .i64 (G k 8), .int .i64 (G k 9), .string (T k 10), .string (T k 11)] 23)).alloc (.cells #[.int .i64 0, .int .i64 0, .int .i64 0, .int .i64 0, .int .i64 0, .int .i64 0, .int .i64 0, .int .i64 0] 54)).alloc (.cells #[.int .i64 0, .int .i64 0, .int .i64 0, .int .i64 0, .int .i64 0, .int .i64 0, .int .i64 0, .int .i64 0] 54)) (w.heap.size + 1) 54 (ptC px py 0) := by
    have := (Blk.new (w.alloc (.cells #[.int .i64 (G k 0), .int .i64 (G k 1), .int .i64 (G k 2), .int .i64 (G k 3), .int .i64 (G k 4), .int .i64 (G k 5), .int .i64 (G k 6), .int .i64 (G k 7), .int .i64 (G k 8), .int .i64 (G k 9), .string (T k 10), .string (T k 11)] 23)) 54 #[.int .i64 0, .int .i64 0, .int .i64 0, .int .i64 0, .int .i64 0, .int .i64 0, .int .i64 0, .int .i64 0]).alloc (.cells #[.int .i64 0, .int .i64 0, .int .i64 0, .int .i64 0, .int .i64 0, .int .i64 0, .int .i64 0, .int .i64 0] 54)
    simpa [ptC, pz] using this
  have b5 : Blk (((w.alloc (.cells #[.int .i64 (G k 0), .int .i64 (G k 1), .int .i64 (G k 2), .int .i64 (G k 3), .int .i64 (G k 4), .int .i64 (G k 5), .int .i64 (G k 6), .int .i64 (G k 7), .int .i64 (G k 8), .int .i64 (G k 9), .string (T k 10), .string (T k 11)] 23)).alloc (.cells #[.int .i64 0, .int .i64 0, .int .i64 0, .int .i64 0, .int .i64 0, .int .i64 0, .int .i64 0, .int .i64 0] 54)).alloc (.cells #[.int .i64 0, .int .i64 0, .int .i64 0, .int .i64 0, .int .i64 0, .int .i64 0, .int .i64 0, .int .i64 0] 54)) (w.heap.size + 1 + 1) 54 (ptC px py 0) := by
    have := Blk.new ((w.alloc (.cells #[.int .i64 (G k 0), .int .i64 (G k 1), .int .i64 (G k 2), .int .i64 (G k 3), .int .i64 (G k 4), .int .i64 (G k 5), .int .i64 (G k 6), .int .i64 (G k 7), .int .i64 (G k 8), .int .i64 (G k 9), .string (T k 10), .string (T k 11)] 23)).alloc (.cells #[.int .i64 0, .int .i64 0, .int .i64 0, .int .i64 0, .int .i64 0, .int .i64 0, .int .i64 0, .int .i64 0] 54)) 54 #[.int .i64 0, .int .i64 0, .int .i64 0, .int .i64 0, .int .i64 0, .int .i64 0, .int .i64 0, .int .i64 0]
    simpa [ptC, pz] using this
  have hbel : Below w.heap.size w (((w.alloc (.cells #[.int .i64 (G k 0), .int .i64 (G k 1), .int .i64 (G k 2), .int .i64 (G k 3), .int .i64 (G k 4), .int .i64 (G k 5), .int .i64 (G k 6), .int .i64 (G k 7), .int .i64 (G k 8), .int .i64 (G k 9), .string (T k 10), .string (T k 11)] 23)).alloc (.cells #[.int .i64 0, .int .i64 0, .int .i64 0, .int .i64 0, .int .i64 0, .int .i64 0, .int .i64 0, .int .i64 0] 54)).alloc (.cells #[.int .i64 0, .int .i64 0, .int .i64 0, .int .i64 0, .int .i64 0, .int .i64 0, .int .i64 0, .int .i64 0] 54)) := (((Below.refl _ _).alloc (Nat.le_refl _) _).alloc (by simp) _).alloc (by simp; omega) _
  generalize ((w.alloc (.cells #[.int .i64 (G k 0), .int .i64 (G k 1), .int .i64 (G k 2), .int .i64 (G k 3), .int .i64 (G k 4), .int .i64 (G k 5), .int .i64 (G k 6), .int .i64 (G k 7), .int .i64 (G k 8), .int .i64 (G k 9), .string (T k 10), .string (T k 11)] 23)).alloc (.cells #[.int .i64 0, .int .i64 0, .int .i64 0, .int .i64 0, .int .i64 0, .int .i64 0, .int .i64 0, .int .i64 0] 54)).alloc (.cells #[.int .i64 0, .int .i64 0, .int .i64 0, .int .i64 0, .int .i64 0, .int .i64 0, .int .i64 0, .int .i64 0] 54) = w0 at *
  have m0 : w0.cell? ⟨w.heap.size, 0, none⟩ = some (.int .i64 (G k 0)) := b0.cell 0
  have m1 : w0.cell? ⟨w.heap.size, 1, none⟩ = some (.int .i64 (G k 1)) := b0.cell 1
  have m3 : w0.cell? ⟨w.heap.size, 3, none⟩ = some (.int .i64 (G k 3)) := b0.cell 3
  have m4 : w0.cell? ⟨w.heap.size, 4, none⟩ = some (.int .i64 (G k 4)) := b0.cell 4
  have m5 : w0.cell? ⟨w.heap.size, 5, none⟩ = some (.int .i64 (G k 5)) := b0.cell 5
  have m6 : w0.cell? ⟨w.heap.size, 6, none⟩ = some (.int .i64 (G k 6)) := b0.cell 6
  have m7 : w0.cell? ⟨w.heap.size, 7, none⟩ = some (.int .i64 (G k 7)) := b0.cell 7
  go_wp2_with fail
  go_loopw [43] (fun a wr => ∃ (m : Nat) (z : Int), Nth m z ∧ a = .int .i64 z ∧ Blk wr w.heap.size 23 (shC G T k) ∧ Blk wr (w.heap.size + 1) 54 (ptC px py 0) ∧ Blk wr (w.heap.size + 1 + 1) 54 (ptC px py m) ∧ Below w.heap.size w wr) (fun a _ => 4 - (intOf a).toNat)
  case atStart => exact ⟨0, 0, .inl ⟨rfl, rfl⟩, rfl, b0, b4, b5, hbel⟩
  case round =>
    clear m0 m1 m3 m4 m5 m6 m7 b0 b4 b5 hbel
    obtain ⟨m, z, hnth, rfl, b0, b4, b5, hbel⟩ := hrel
    rcases hnth with ⟨rfl, rfl⟩ | ⟨rfl, rfl⟩ | ⟨rfl, rfl⟩ | ⟨rfl, rfl⟩ | ⟨rfl, rfl⟩
    · have hix : ∀ wx : World, (Instr.index 73 (.agg #[.int .i64 (G k 3), .int .i64 (G k 4), .int .i64 (G k 3 + G k 5), .int .i64 (G k 4), .int .i64 (G k 3 + G k 5), .int .i64 (G k 4 + G k 6), .int .i64 (G k 3), .int .i64 (G k 4 + G k 6)]) (.int .i64 0)).run Tryd.prog wx = .ok (.agg #[.int .i64 (G k 3), .int .i64 (G k 4)]) wx := fun _ => by kernel_rfl
      go_upto_region 5 with fail
      have hg0 := b0.lt
      have hg5 := b5.lt
      have c0 := b0.alloc (.cells #[.int .i64 (G k 3), .int .i64 (G k 4)] 72)
      have c4 := b4.alloc (.cells #[.int .i64 (G k 3), .int .i64 (G k 4)] 72)
      have c5 := b5.alloc (.cells #[.int .i64 (G k 3), .int .i64 (G k 4)] 72)
      have c7 := Blk.new wr 72 #[.int .i64 (G k 3), .int .i64 (G k 4)]
      have cb := hbel.alloc hbel.size (.cells #[.int .i64 (G k 3), .int .i64 (G k 4)] 72)
      clear b0 b4 b5 hbel
      generalize wr.alloc (.cells #[.int .i64 (G k 3), .int .i64 (G k 4)] 72) = w0 at *
      have m1 : w0.cell? ⟨w.heap.size, 1, none⟩ = some (.int .i64 (G k 1)) := c0.cell 1
      have m3 : w0.cell? ⟨w.heap.size, 3, none⟩ = some (.int .i64 (G k 3)) := c0.cell 3
      have m4 : w0.cell? ⟨w.heap.size, 4, none⟩ = some (.int .i64 (G k 4)) := c0.cell 4
      have m5 : w0.cell? ⟨w.heap.size, 5, none⟩ = some (.int .i64 (G k 5)) := c0.cell 5
      have m6 : w0.cell? ⟨w.heap.size, 6, none⟩ = some (.int .i64 (G k 6)) := c0.cell 6
      have m7 : w0.cell? ⟨w.heap.size, 7, none⟩ = some (.int .i64 (G k 7)) := c0.cell 7
      have q0 : w0.cell? ⟨wr.heap.size, 0, none⟩ = some (.int .i64 (G k 3)) := c7.cell 0
      have q1 : w0.cell? ⟨wr.heap.size, 1, none⟩ = some (.int .i64 (G k 4)) := c7.cell 1
      have hq0 := hide (Hq.out.below cb)
      have Ht := hide (turned_ok (G k 3) (G k 4) (2 * G k 3 + G k 5) (2 * G k 4 + G k 6) (G k 7) w0 hq0.out (by omega) (by omega) (by omega) (by omega) (by omega))
      go_wp2_with fail
      refine Ht.out.mono ?_
      rintro e w1 ⟨rfl, d, rfl⟩
      obtain ⟨qo, hou⟩ := Hc.out 0 (by omega)
      have Hou := hide (out_ok A n c G T (G k 1) (ctX G k 0) (ctY G k 0) (px 0) (py 0) qo (w0.drewN d) (hq0.out.drewN d) Ho.out ((hr.below cb).drewN d) hou)
      clear hou
      go_wp2_with fail
      refine Hou.out.mono ?_
      rintro e w2 ⟨rfl, hb2⟩
      have hs2 : w.heap.size + 1 + 1 < w0.heap.size := c5.lt
      have d0 := (c0.drewN d).below hb2 c0.lt
      have d4 := (c4.drewN d).below hb2 c4.lt
      have d5 := (c5.drewN d).below hb2 c5.lt
      have db := (below_drewN cb d).trans (hb2.mono cb.size)
      clear c0 c4 c5 c7 cb m1 m3 m4 m5 m6 m7 q0 q1
      have f0 : w2.cell? ⟨w.heap.size + 1 + 1, 0, none⟩ = some (.int .i64 0) := d5.cell 0
      have f1 : w2.cell? ⟨w.heap.size + 1 + 1, 1, none⟩ = some (.int .i64 0) := d5.cell 1
      have z0 : w2.frozen? ⟨w.heap.size + 1 + 1, 0, none⟩ = false := d5.frozen 0
      have z1 : w2.frozen? ⟨w.heap.size + 1 + 1, 1, none⟩ = false := d5.frozen 1
      go_wp2_with fail
      have e5 := (d5.set_ 0 (.int .i64 (px 0))).set_ 1 (.int .i64 (py 0))
      exact ⟨⟨1, 1, .inr (.inl ⟨rfl, rfl⟩), rfl, (d0.far (p := ⟨w.heap.size + 1 + 1, 0, none⟩) (by simp <;> omega) _).far (p := ⟨w.heap.size + 1 + 1, 1, none⟩) (by simp <;> omega) _, (d4.far (p := ⟨w.heap.size + 1 + 1, 0, none⟩) (by simp <;> omega) _).far (p := ⟨w.heap.size + 1 + 1, 1, none⟩) (by simp <;> omega) _, blk_cells (by simp [ptC, pz]) e5, (db.setCell (p := ⟨w.heap.size + 1 + 1, 0, none⟩) (by simp <;> omega) _).setCell (p := ⟨w.heap.size + 1 + 1, 1, none⟩) (by simp <;> omega) _⟩, by simp only [intOf]; decide⟩
    · have hix : ∀ wx : World, (Instr.index 73 (.agg #[.int .i64 (G k 3), .int .i64 (G k 4), .int .i64 (G k 3 + G k 5), .int .i64 (G k 4), .int .i64 (G k 3 + G k 5), .int .i64 (G k 4 + G k 6), .int .i64 (G k 3), .int .i64 (G k 4 + G k 6)]) (.int .i64 1)).run Tryd.prog wx = .ok (.agg #[.int .i64 (G k 3 + G k 5), .int .i64 (G k 4)]) wx := fun _ => by kernel_rfl
      go_upto_region 5 with fail
      have hg0 := b0.lt
      have hg5 := b5.lt
      have c0 := b0.alloc (.cells #[.int .i64 (G k 3 + G k 5), .int .i64 (G k 4)] 72)
      have c4 := b4.alloc (.cells #[.int .i64 (G k 3 + G k 5), .int .i64 (G k 4)] 72)
      have c5 := b5.alloc (.cells #[.int .i64 (G k 3 + G k 5), .int .i64 (G k 4)] 72)
      have c7 := Blk.new wr 72 #[.int .i64 (G k 3 + G k 5), .int .i64 (G k 4)]
      have cb := hbel.alloc hbel.size (.cells #[.int .i64 (G k 3 + G k 5), .int .i64 (G k 4)] 72)
      clear b0 b4 b5 hbel
      generalize wr.alloc (.cells #[.int .i64 (G k 3 + G k 5), .int .i64 (G k 4)] 72) = w0 at *
      have m1 : w0.cell? ⟨w.heap.size, 1, none⟩ = some (.int .i64 (G k 1)) := c0.cell 1
      have m3 : w0.cell? ⟨w.heap.size, 3, none⟩ = some (.int .i64 (G k 3)) := c0.cell 3
      have m4 : w0.cell? ⟨w.heap.size, 4, none⟩ = some (.int .i64 (G k 4)) := c0.cell 4
      have m5 : w0.cell? ⟨w.heap.size, 5, none⟩ = some (.int .i64 (G k 5)) := c0.cell 5
      have m6 : w0.cell? ⟨w.heap.size, 6, none⟩ = some (.int .i64 (G k 6)) := c0.cell 6
      have m7 : w0.cell? ⟨w.heap.size, 7, none⟩ = some (.int .i64 (G k 7)) := c0.cell 7
      have q0 : w0.cell? ⟨wr.heap.size, 0, none⟩ = some (.int .i64 (G k 3 + G k 5)) := c7.cell 0
      have q1 : w0.cell? ⟨wr.heap.size, 1, none⟩ = some (.int .i64 (G k 4)) := c7.cell 1
      have hq0 := hide (Hq.out.below cb)
      have Ht := hide (turned_ok (G k 3 + G k 5) (G k 4) (2 * G k 3 + G k 5) (2 * G k 4 + G k 6) (G k 7) w0 hq0.out (by omega) (by omega) (by omega) (by omega) (by omega))
      go_wp2_with fail
      refine Ht.out.mono ?_
      rintro e w1 ⟨rfl, d, rfl⟩
      obtain ⟨qo, hou⟩ := Hc.out 1 (by omega)
      have Hou := hide (out_ok A n c G T (G k 1) (ctX G k 1) (ctY G k 1) (px 1) (py 1) qo (w0.drewN d) (hq0.out.drewN d) Ho.out ((hr.below cb).drewN d) hou)
      clear hou
      go_wp2_with fail
      refine Hou.out.mono ?_
      rintro e w2 ⟨rfl, hb2⟩
      have hs2 : w.heap.size + 1 + 1 < w0.heap.size := c5.lt
      have d0 := (c0.drewN d).below hb2 c0.lt
      have d4 := (c4.drewN d).below hb2 c4.lt
      have d5 := (c5.drewN d).below hb2 c5.lt
      have db := (below_drewN cb d).trans (hb2.mono cb.size)
      clear c0 c4 c5 c7 cb m1 m3 m4 m5 m6 m7 q0 q1
      have f0 : w2.cell? ⟨w.heap.size + 1 + 1, 2, none⟩ = some (.int .i64 0) := d5.cell 2
      have f1 : w2.cell? ⟨w.heap.size + 1 + 1, 3, none⟩ = some (.int .i64 0) := d5.cell 3
      have z0 : w2.frozen? ⟨w.heap.size + 1 + 1, 2, none⟩ = false := d5.frozen 2
      have z1 : w2.frozen? ⟨w.heap.size + 1 + 1, 3, none⟩ = false := d5.frozen 3
      go_wp2_with fail
      have e5 := (d5.set_ 2 (.int .i64 (px 1))).set_ 3 (.int .i64 (py 1))
      exact ⟨⟨2, 2, .inr (.inr (.inl ⟨rfl, rfl⟩)), rfl, (d0.far (p := ⟨w.heap.size + 1 + 1, 2, none⟩) (by simp <;> omega) _).far (p := ⟨w.heap.size + 1 + 1, 3, none⟩) (by simp <;> omega) _, (d4.far (p := ⟨w.heap.size + 1 + 1, 2, none⟩) (by simp <;> omega) _).far (p := ⟨w.heap.size + 1 + 1, 3, none⟩) (by simp <;> omega) _, blk_cells (by simp [ptC, pz]) e5, (db.setCell (p := ⟨w.heap.size + 1 + 1, 2, none⟩) (by simp <;> omega) _).setCell (p := ⟨w.heap.size + 1 + 1, 3, none⟩) (by simp <;> omega) _⟩, by simp only [intOf]; decide⟩
    · have hix : ∀ wx : World, (Instr.index 73 (.agg #[.int .i64 (G k 3), .int .i64 (G k 4), .int .i64 (G k 3 + G k 5), .int .i64 (G k 4), .int .i64 (G k 3 + G k 5), .int .i64 (G k 4 + G k 6), .int .i64 (G k 3), .int .i64 (G k 4 + G k 6)]) (.int .i64 2)).run Tryd.prog wx = .ok (.agg #[.int .i64 (G k 3 + G k 5), .int .i64 (G k 4 + G k 6)]) wx := fun _ => by kernel_rfl
      go_upto_region 5 with fail
      have hg0 := b0.lt
      have hg5 := b5.lt
      have c0 := b0.alloc (.cells #[.int .i64 (G k 3 + G k 5), .int .i64 (G k 4 + G k 6)] 72)
      have c4 := b4.alloc (.cells #[.int .i64 (G k 3 + G k 5), .int .i64 (G k 4 + G k 6)] 72)
      have c5 := b5.alloc (.cells #[.int .i64 (G k 3 + G k 5), .int .i64 (G k 4 + G k 6)] 72)
      have c7 := Blk.new wr 72 #[.int .i64 (G k 3 + G k 5), .int .i64 (G k 4 + G k 6)]
      have cb := hbel.alloc hbel.size (.cells #[.int .i64 (G k 3 + G k 5), .int .i64 (G k 4 + G k 6)] 72)
      clear b0 b4 b5 hbel
      generalize wr.alloc (.cells #[.int .i64 (G k 3 + G k 5), .int .i64 (G k 4 + G k 6)] 72) = w0 at *
      have m1 : w0.cell? ⟨w.heap.size, 1, none⟩ = some (.int .i64 (G k 1)) := c0.cell 1
      have m3 : w0.cell? ⟨w.heap.size, 3, none⟩ = some (.int .i64 (G k 3)) := c0.cell 3
      have m4 : w0.cell? ⟨w.heap.size, 4, none⟩ = some (.int .i64 (G k 4)) := c0.cell 4
      have m5 : w0.cell? ⟨w.heap.size, 5, none⟩ = some (.int .i64 (G k 5)) := c0.cell 5
      have m6 : w0.cell? ⟨w.heap.size, 6, none⟩ = some (.int .i64 (G k 6)) := c0.cell 6
      have m7 : w0.cell? ⟨w.heap.size, 7, none⟩ = some (.int .i64 (G k 7)) := c0.cell 7
      have q0 : w0.cell? ⟨wr.heap.size, 0, none⟩ = some (.int .i64 (G k 3 + G k 5)) := c7.cell 0
      have q1 : w0.cell? ⟨wr.heap.size, 1, none⟩ = some (.int .i64 (G k 4 + G k 6)) := c7.cell 1
      have hq0 := hide (Hq.out.below cb)
      have Ht := hide (turned_ok (G k 3 + G k 5) (G k 4 + G k 6) (2 * G k 3 + G k 5) (2 * G k 4 + G k 6) (G k 7) w0 hq0.out (by omega) (by omega) (by omega) (by omega) (by omega))
      go_wp2_with fail
      refine Ht.out.mono ?_
      rintro e w1 ⟨rfl, d, rfl⟩
      obtain ⟨qo, hou⟩ := Hc.out 2 (by omega)
      have Hou := hide (out_ok A n c G T (G k 1) (ctX G k 2) (ctY G k 2) (px 2) (py 2) qo (w0.drewN d) (hq0.out.drewN d) Ho.out ((hr.below cb).drewN d) hou)
      clear hou
      go_wp2_with fail
      refine Hou.out.mono ?_
      rintro e w2 ⟨rfl, hb2⟩
      have hs2 : w.heap.size + 1 + 1 < w0.heap.size := c5.lt
      have d0 := (c0.drewN d).below hb2 c0.lt
      have d4 := (c4.drewN d).below hb2 c4.lt
      have d5 := (c5.drewN d).below hb2 c5.lt
      have db := (below_drewN cb d).trans (hb2.mono cb.size)
      clear c0 c4 c5 c7 cb m1 m3 m4 m5 m6 m7 q0 q1
      have f0 : w2.cell? ⟨w.heap.size + 1 + 1, 4, none⟩ = some (.int .i64 0) := d5.cell 4
      have f1 : w2.cell? ⟨w.heap.size + 1 + 1, 5, none⟩ = some (.int .i64 0) := d5.cell 5
      have z0 : w2.frozen? ⟨w.heap.size + 1 + 1, 4, none⟩ = false := d5.frozen 4
      have z1 : w2.frozen? ⟨w.heap.size + 1 + 1, 5, none⟩ = false := d5.frozen 5
      go_wp2_with fail
      have e5 := (d5.set_ 4 (.int .i64 (px 2))).set_ 5 (.int .i64 (py 2))
      exact ⟨⟨3, 3, .inr (.inr (.inr (.inl ⟨rfl, rfl⟩))), rfl, (d0.far (p := ⟨w.heap.size + 1 + 1, 4, none⟩) (by simp <;> omega) _).far (p := ⟨w.heap.size + 1 + 1, 5, none⟩) (by simp <;> omega) _, (d4.far (p := ⟨w.heap.size + 1 + 1, 4, none⟩) (by simp <;> omega) _).far (p := ⟨w.heap.size + 1 + 1, 5, none⟩) (by simp <;> omega) _, blk_cells (by simp [ptC, pz]) e5, (db.setCell (p := ⟨w.heap.size + 1 + 1, 4, none⟩) (by simp <;> omega) _).setCell (p := ⟨w.heap.size + 1 + 1, 5, none⟩) (by simp <;> omega) _⟩, by simp only [intOf]; decide⟩
    · have hix : ∀ wx : World, (Instr.index 73 (.agg #[.int .i64 (G k 3), .int .i64 (G k 4), .int .i64 (G k 3 + G k 5), .int .i64 (G k 4), .int .i64 (G k 3 + G k 5), .int .i64 (G k 4 + G k 6), .int .i64 (G k 3), .int .i64 (G k 4 + G k 6)]) (.int .i64 3)).run Tryd.prog wx = .ok (.agg #[.int .i64 (G k 3), .int .i64 (G k 4 + G k 6)]) wx := fun _ => by kernel_rfl
      go_upto_region 5 with fail
      have hg0 := b0.lt
      have hg5 := b5.lt
      have c0 := b0.alloc (.cells #[.int .i64 (G k 3), .int .i64 (G k 4 + G k 6)] 72)
      have c4 := b4.alloc (.cells #[.int .i64 (G k 3), .int .i64 (G k 4 + G k 6)] 72)
      have c5 := b5.alloc (.cells #[.int .i64 (G k 3), .int .i64 (G k 4 + G k 6)] 72)
      have c7 := Blk.new wr 72 #[.int .i64 (G k 3), .int .i64 (G k 4 + G k 6)]
      have cb := hbel.alloc hbel.size (.cells #[.int .i64 (G k 3), .int .i64 (G k 4 + G k 6)] 72)
      clear b0 b4 b5 hbel
      generalize wr.alloc (.cells #[.int .i64 (G k 3), .int .i64 (G k 4 + G k 6)] 72) = w0 at *
      have m1 : w0.cell? ⟨w.heap.size, 1, none⟩ = some (.int .i64 (G k 1)) := c0.cell 1
      have m3 : w0.cell? ⟨w.heap.size, 3, none⟩ = some (.int .i64 (G k 3)) := c0.cell 3
      have m4 : w0.cell? ⟨w.heap.size, 4, none⟩ = some (.int .i64 (G k 4)) := c0.cell 4
      have m5 : w0.cell? ⟨w.heap.size, 5, none⟩ = some (.int .i64 (G k 5)) := c0.cell 5
      have m6 : w0.cell? ⟨w.heap.size, 6, none⟩ = some (.int .i64 (G k 6)) := c0.cell 6
      have m7 : w0.cell? ⟨w.heap.size, 7, none⟩ = some (.int .i64 (G k 7)) := c0.cell 7
      have q0 : w0.cell? ⟨wr.heap.size, 0, none⟩ = some (.int .i64 (G k 3)) := c7.cell 0
      have q1 : w0.cell? ⟨wr.heap.size, 1, none⟩ = some (.int .i64 (G k 4 + G k 6)) := c7.cell 1
      have hq0 := hide (Hq.out.below cb)
      have Ht := hide (turned_ok (G k 3) (G k 4 + G k 6) (2 * G k 3 + G k 5) (2 * G k 4 + G k 6) (G k 7) w0 hq0.out (by omega) (by omega) (by omega) (by omega) (by omega))
      go_wp2_with fail
      refine Ht.out.mono ?_
      rintro e w1 ⟨rfl, d, rfl⟩
      obtain ⟨qo, hou⟩ := Hc.out 3 (by omega)
      have Hou := hide (out_ok A n c G T (G k 1) (ctX G k 3) (ctY G k 3) (px 3) (py 3) qo (w0.drewN d) (hq0.out.drewN d) Ho.out ((hr.below cb).drewN d) hou)
      clear hou
      go_wp2_with fail
      refine Hou.out.mono ?_
      rintro e w2 ⟨rfl, hb2⟩
      have hs2 : w.heap.size + 1 + 1 < w0.heap.size := c5.lt
      have d0 := (c0.drewN d).below hb2 c0.lt
      have d4 := (c4.drewN d).below hb2 c4.lt
      have d5 := (c5.drewN d).below hb2 c5.lt
      have db := (below_drewN cb d).trans (hb2.mono cb.size)
      clear c0 c4 c5 c7 cb m1 m3 m4 m5 m6 m7 q0 q1
      have f0 : w2.cell? ⟨w.heap.size + 1 + 1, 6, none⟩ = some (.int .i64 0) := d5.cell 6
      have f1 : w2.cell? ⟨w.heap.size + 1 + 1, 7, none⟩ = some (.int .i64 0) := d5.cell 7
      have z0 : w2.frozen? ⟨w.heap.size + 1 + 1, 6, none⟩ = false := d5.frozen 6
      have z1 : w2.frozen? ⟨w.heap.size + 1 + 1, 7, none⟩ = false := d5.frozen 7
      go_wp2_with fail
      have e5 := (d5.set_ 6 (.int .i64 (px 3))).set_ 7 (.int .i64 (py 3))
      exact ⟨⟨4, 4, .inr (.inr (.inr (.inr ⟨rfl, rfl⟩))), rfl, (d0.far (p := ⟨w.heap.size + 1 + 1, 6, none⟩) (by simp <;> omega) _).far (p := ⟨w.heap.size + 1 + 1, 7, none⟩) (by simp <;> omega) _, (d4.far (p := ⟨w.heap.size + 1 + 1, 6, none⟩) (by simp <;> omega) _).far (p := ⟨w.heap.size + 1 + 1, 7, none⟩) (by simp <;> omega) _, blk_cells (by simp [ptC, pz]) e5, (db.setCell (p := ⟨w.heap.size + 1 + 1, 6, none⟩) (by simp <;> omega) _).setCell (p := ⟨w.heap.size + 1 + 1, 7, none⟩) (by simp <;> omega) _⟩, by simp only [intOf]; decide⟩
    · have g0 : wr.cell? ⟨w.heap.size + 1 + 1, 0, none⟩ = some (.int .i64 (px 0)) := b5.cell 0
      have g1 : wr.cell? ⟨w.heap.size + 1 + 1, 1, none⟩ = some (.int .i64 (py 0)) := b5.cell 1
      have g2 : wr.cell? ⟨w.heap.size + 1 + 1, 2, none⟩ = some (.int .i64 (px 1)) := b5.cell 2
      have g3 : wr.cell? ⟨w.heap.size + 1 + 1, 3, none⟩ = some (.int .i64 (py 1)) := b5.cell 3
      have g4 : wr.cell? ⟨w.heap.size + 1 + 1, 4, none⟩ = some (.int .i64 (px 2)) := b5.cell 4
      have g5 : wr.cell? ⟨w.heap.size + 1 + 1, 5, none⟩ = some (.int .i64 (py 2)) := b5.cell 5
      have g6 : wr.cell? ⟨w.heap.size + 1 + 1, 6, none⟩ = some (.int .i64 (px 3)) := b5.cell 6
      have g7 : wr.cell? ⟨w.heap.size + 1 + 1, 7, none⟩ = some (.int .i64 (py 3)) := b5.cell 7
      have h0 : wr.cell? ⟨w.heap.size + 1, 0, none⟩ = some (.int .i64 0) := b4.cell 0
      have z0 : wr.frozen? ⟨w.heap.size + 1, 0, none⟩ = false := b4.frozen 0
      have h1 : wr.cell? ⟨w.heap.size + 1, 1, none⟩ = some (.int .i64 0) := b4.cell 1
      have z1 : wr.frozen? ⟨w.heap.size + 1, 1, none⟩ = false := b4.frozen 1
      have h2 : wr.cell? ⟨w.heap.size + 1, 2, none⟩ = some (.int .i64 0) := b4.cell 2
      have z2 : wr.frozen? ⟨w.heap.size + 1, 2, none⟩ = false := b4.frozen 2
      have h3 : wr.cell? ⟨w.heap.size + 1, 3, none⟩ = some (.int .i64 0) := b4.cell 3
      have z3 : wr.frozen? ⟨w.heap.size + 1, 3, none⟩ = false := b4.frozen 3
      have h4 : wr.cell? ⟨w.heap.size + 1, 4, none⟩ = some (.int .i64 0) := b4.cell 4
      have z4 : wr.frozen? ⟨w.heap.size + 1, 4, none⟩ = false := b4.frozen 4
      have h5 : wr.cell? ⟨w.heap.size + 1, 5, none⟩ = some (.int .i64 0) := b4.cell 5
      have z5 : wr.frozen? ⟨w.heap.size + 1, 5, none⟩ = false := b4.frozen 5
      have h6 : wr.cell? ⟨w.heap.size + 1, 6, none⟩ = some (.int .i64 0) := b4.cell 6
      have z6 : wr.frozen? ⟨w.heap.size + 1, 6, none⟩ = false := b4.frozen 6
      have h7 : wr.cell? ⟨w.heap.size + 1, 7, none⟩ = some (.int .i64 0) := b4.cell 7
      have z7 : wr.frozen? ⟨w.heap.size + 1, 7, none⟩ = false := b4.frozen 7
      go_wp2_with fail
      have e4 := ((((((((b4.set_ 0 (.int .i64 (px 0))).set_ 1 (.int .i64 (py 0))).set_ 2 (.int .i64 (px 1))).set_ 3 (.int .i64 (py 1))).set_ 4 (.int .i64 (px 2))).set_ 5 (.int .i64 (py 2))).set_ 6 (.int .i64 (px 3))).set_ 7 (.int .i64 (py 3)))
      have eb := ((((((((hbel.setCell (p := ⟨w.heap.size + 1, 0, none⟩) (by simp) (.int .i64 (px 0))).setCell (p := ⟨w.heap.size + 1, 1, none⟩) (by simp) (.int .i64 (py 0))).setCell (p := ⟨w.heap.size + 1, 2, none⟩) (by simp) (.int .i64 (px 1))).setCell (p := ⟨w.heap.size + 1, 3, none⟩) (by simp) (.int .i64 (py 1))).setCell (p := ⟨w.heap.size + 1, 4, none⟩) (by simp) (.int .i64 (px 2))).setCell (p := ⟨w.heap.size + 1, 5, none⟩) (by simp) (.int .i64 (py 2))).setCell (p := ⟨w.heap.size + 1, 6, none⟩) (by simp) (.int .i64 (px 3))).setCell (p := ⟨w.heap.size + 1, 7, none⟩) (by simp) (.int .i64 (py 3)))
      clear b0 b4 b5 hbel g0 g1 g2 g3 g4 g5 g6 g7 h0 h1 h2 h3 h4 h5 h6 h7 z0 z1 z2 z3 z4 z5 z6 z7
      generalize ((((((((wr.setCell ⟨w.heap.size + 1, 0, none⟩ (.int .i64 (px 0))).setCell ⟨w.heap.size + 1, 1, none⟩ (.int .i64 (py 0))).setCell ⟨w.heap.size + 1, 2, none⟩ (.int .i64 (px 1))).setCell ⟨w.heap.size + 1, 3, none⟩ (.int .i64 (py 1))).setCell ⟨w.heap.size + 1, 4, none⟩ (.int .i64 (px 2))).setCell ⟨w.heap.size + 1, 5, none⟩ (.int .i64 (py 2))).setCell ⟨w.heap.size + 1, 6, none⟩ (.int .i64 (px 3))).setCell ⟨w.heap.size + 1, 7, none⟩ (.int .i64 (py 3))) = wz at *
      replace e4 := blk_cells (b := #[.int .i64 (px 0), .int .i64 (py 0), .int .i64 (px 1), .int .i64 (py 1), .int .i64 (px 2), .int .i64 (py 2), .int .i64 (px 3), .int .i64 (py 3)]) (by simp [ptC, pz]) e4
      have c0 : wz.cell? ⟨w.heap.size + 1, 0, none⟩ = some (.int .i64 (px 0)) := e4.cell 0
      have c1 : wz.cell? ⟨w.heap.size + 1, 1, none⟩ = some (.int .i64 (py 0)) := e4.cell 1
      have c2 : wz.cell? ⟨w.heap.size + 1, 2, none⟩ = some (.int .i64 (px 1)) := e4.cell 2
      have c3 : wz.cell? ⟨w.heap.size + 1, 3, none⟩ = some (.int .i64 (py 1)) := e4.cell 3
      have c4 : wz.cell? ⟨w.heap.size + 1, 4, none⟩ = some (.int .i64 (px 2)) := e4.cell 4
      have c5 : wz.cell? ⟨w.heap.size + 1, 5, none⟩ = some (.int .i64 (py 2)) := e4.cell 5
      have c6 : wz.cell? ⟨w.heap.size + 1, 6, none⟩ = some (.int .i64 (px 3)) := e4.cell 6
      have c7 : wz.cell? ⟨w.heap.size + 1, 7, none⟩ = some (.int .i64 (py 3)) := e4.cell 7
      exact bodyPost_ret (v := .agg #[.int .i64 (px 0), .int .i64 (py 0), .int .i64 (px 1), .int .i64 (py 1), .int .i64 (px 2), .int .i64 (py 2), .int .i64 (px 3), .int .i64 (py 3)]) (by simp [results, Tryd.results24, go_sem, c0, c1, c2, c3, c4, c5, c6, c7]) rfl ⟨rfl, eb⟩
end Go.Proofs.YtnmikhmbnpiadaaDoor.Shp
