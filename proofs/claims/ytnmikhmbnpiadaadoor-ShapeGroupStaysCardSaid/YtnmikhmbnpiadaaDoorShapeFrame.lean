/- Contracts of package shape: frame, extent, move. (Printed by wip/bin/framegen.py.) -/
import Derived.Test.YtnmikhmbnpiadaaDoorShapeCornersAll
import Derived.Test.YtnmikhmbnpiadaaDoorShapeClone
namespace Go.Proofs.YtnmikhmbnpiadaaDoor.Shp
open Go.RowKit Go.Frm

/-- the frame behind m corners -/
def frM (px py : Nat → Int) (m : Nat) : Array Value := if m = 0 then #[.int .i64 0, .int .i64 0, .int .i64 0, .int .i64 0] else frC px py m
set_option maxRecDepth 100000 in
set_option maxHeartbeats 2000000 in
theorem frame_ok (n k : Nat) (G : Nat → Nat → Int) (T : Nat → Nat → ByteArray) (w : World) (hq : TabQ w) (ho : ShOk G n) (hk : k < n) :
    Calls Tryd.prog 33 #[shA G T k] w fun e w' => e = .returned (.agg #[.int .i64 (mnU (ctX G k) 4), .int .i64 (mnU (ctY G k) 4), .int .i64 (mxU (ctX G k) 4), .int .i64 (mxU (ctY G k) 4)]) ∧ Below w.heap.size w w' := by
  obtain ⟨⟨x1, x2⟩, ⟨y1, y2⟩⟩ := ho.xy k hk
  obtain ⟨⟨v1, v2⟩, ⟨h1, h2⟩⟩ := ho.wh k hk
  obtain ⟨t1, t2⟩ := ho.turn k hk
  have Hq := hide hq
  clear ho hq
  generalize hX : ctX G k = X
  generalize hY : ctY G k = Y
  have HX := hide hX
  have HY := hide hY
  clear hX hY
  unfold shA
  go_enter Tryd.func33, Tryd.ntmps33
  go_upto_region 2 with fail
  have b0 : Blk (((w.alloc (.cells #[.int .i64 (G k 0), .int .i64 (G k 1), .int .i64 (G k 2), .int .i64 (G k 3), .int .i64 (G k 4), .int .i64 (G k 5), .int .i64 (G k 6), .int .i64 (G k 7), .int .i64 (G k 8), .int .i64 (G k 9), .string (T k 10), .string (T k 11)] 23)).alloc (.cells #[.int .i64 0, .int .i64 0, .int .i64 0, .int .i64 0] 41)).alloc (.cells #[.int .i64 0, .int .i64 0, .int .i64 0, .int .i64 0] 41)) w.heap.size 23 (shC G T k) := ((Blk.new w _ _).alloc _).alloc _
  have b2 : Blk (((w.alloc (.cells #[.int .i64 (G k 0), .int .i64 (G k 1), .int .i64 (G k 2), .int .i64 (G k 3), .int .i64 (G k 4), .int .i64 (G k 5), .int .i64 (G k 6), .int .i64 (G k 7), .int .i64 (G k 8), .int .i64 (G k 9), .string (T k 10), .string (T k 11)] 23)).alloc (.cells #[.int .i64 0, .int .i64 0, .int .i64 0, .int .i64 0] 41)).alloc (.cells #[.int .i64 0, .int .i64 0, .int .i64 0, .int .i64 0] 41)) (w.heap.size + 1) 41 #[.int .i64 0, .int .i64 0, .int .i64 0, .int .i64 0] := by
    simpa using (Blk.new (w.alloc (.cells #[.int .i64 (G k 0), .int .i64 (G k 1), .int .i64 (G k 2), .int .i64 (G k 3), .int .i64 (G k 4), .int .i64 (G k 5), .int .i64 (G k 6), .int .i64 (G k 7), .int .i64 (G k 8), .int .i64 (G k 9), .string (T k 10), .string (T k 11)] 23)) 41 #[.int .i64 0, .int .i64 0, .int .i64 0, .int .i64 0]).alloc (.cells #[.int .i64 0, .int .i64 0, .int .i64 0, .int .i64 0] 41)
  have b3 : Blk (((w.alloc (.cells #[.int .i64 (G k 0), .int .i64 (G k 1), .int .i64 (G k 2), .int .i64 (G k 3), .int .i64 (G k 4), .int .i64 (G k 5), .int .i64 (G k 6), .int .i64 (G k 7), .int .i64 (G k 8), .int .i64 (G k 9), .string (T k 10), .string (T k 11)] 23)).alloc (.cells #[.int .i64 0, .int .i64 0, .int .i64 0, .int .i64 0] 41)).alloc (.cells #[.int .i64 0, .int .i64 0, .int .i64 0, .int .i64 0] 41)) (w.heap.size + 1 + 1) 41 (frM X Y 0) := by
    simpa [frM] using Blk.new ((w.alloc (.cells #[.int .i64 (G k 0), .int .i64 (G k 1), .int .i64 (G k 2), .int .i64 (G k 3), .int .i64 (G k 4), .int .i64 (G k 5), .int .i64 (G k 6), .int .i64 (G k 7), .int .i64 (G k 8), .int .i64 (G k 9), .string (T k 10), .string (T k 11)] 23)).alloc (.cells #[.int .i64 0, .int .i64 0, .int .i64 0, .int .i64 0] 41)) 41 #[.int .i64 0, .int .i64 0, .int .i64 0, .int .i64 0]
  have hbel : Below w.heap.size w (((w.alloc (.cells #[.int .i64 (G k 0), .int .i64 (G k 1), .int .i64 (G k 2), .int .i64 (G k 3), .int .i64 (G k 4), .int .i64 (G k 5), .int .i64 (G k 6), .int .i64 (G k 7), .int .i64 (G k 8), .int .i64 (G k 9), .string (T k 10), .string (T k 11)] 23)).alloc (.cells #[.int .i64 0, .int .i64 0, .int .i64 0, .int .i64 0] 41)).alloc (.cells #[.int .i64 0, .int .i64 0, .int .i64 0, .int .i64 0] 41)) := (((Below.refl _ _).alloc (Nat.le_refl _) _).alloc (by simp) _).alloc (by simp; omega) _
  generalize ((w.alloc (.cells #[.int .i64 (G k 0), .int .i64 (G k 1), .int .i64 (G k 2), .int .i64 (G k 3), .int .i64 (G k 4), .int .i64 (G k 5), .int .i64 (G k 6), .int .i64 (G k 7), .int .i64 (G k 8), .int .i64 (G k 9), .string (T k 10), .string (T k 11)] 23)).alloc (.cells #[.int .i64 0, .int .i64 0, .int .i64 0, .int .i64 0] 41)).alloc (.cells #[.int .i64 0, .int .i64 0, .int .i64 0, .int .i64 0] 41) = w0 at *
  have m3 : w0.cell? ⟨w.heap.size, 3, none⟩ = some (.int .i64 (G k 3)) := b0.cell 3
  have m4 : w0.cell? ⟨w.heap.size, 4, none⟩ = some (.int .i64 (G k 4)) := b0.cell 4
  have m5 : w0.cell? ⟨w.heap.size, 5, none⟩ = some (.int .i64 (G k 5)) := b0.cell 5
  have m6 : w0.cell? ⟨w.heap.size, 6, none⟩ = some (.int .i64 (G k 6)) := b0.cell 6
  go_wp2_with fail
  go_loopw [41] (fun a wr => ∃ (m : Nat) (z : Int), Nth m z ∧ a = .int .i64 z ∧ Blk wr w.heap.size 23 (shC G T k) ∧ Blk wr (w.heap.size + 1) 41 #[.int .i64 0, .int .i64 0, .int .i64 0, .int .i64 0] ∧ Blk wr (w.heap.size + 1 + 1) 41 (frM X Y m) ∧ Below w.heap.size w wr) (fun a _ => 4 - (intOf a).toNat)
  case atStart => exact ⟨0, 0, .inl ⟨rfl, rfl⟩, rfl, b0, b2, b3, hbel⟩
  case round =>
    clear m3 m4 m5 m6 b0 b2 b3 hbel
    obtain ⟨m, z, hnth, rfl, b0, b2, b3, hbel⟩ := hrel
    rcases hnth with ⟨rfl, rfl⟩ | ⟨rfl, rfl⟩ | ⟨rfl, rfl⟩ | ⟨rfl, rfl⟩ | ⟨rfl, rfl⟩
    · have hix : ∀ wx : World, (Instr.index 73 (.agg #[.int .i64 (G k 3), .int .i64 (G k 4), .int .i64 (G k 3 + G k 5), .int .i64 (G k 4), .int .i64 (G k 3 + G k 5), .int .i64 (G k 4 + G k 6), .int .i64 (G k 3), .int .i64 (G k 4 + G k 6)]) (.int .i64 0)).run Tryd.prog wx = .ok (.agg #[.int .i64 (G k 3), .int .i64 (G k 4)]) wx := fun _ => by kernel_rfl
      go_upto_region 5 with fail
      have hg3 := b3.lt
      have c0 := b0.alloc (.cells #[.int .i64 (G k 3), .int .i64 (G k 4)] 72)
      have c2 := b2.alloc (.cells #[.int .i64 (G k 3), .int .i64 (G k 4)] 72)
      have c3 := b3.alloc (.cells #[.int .i64 (G k 3), .int .i64 (G k 4)] 72)
      have c7 := Blk.new wr 72 #[.int .i64 (G k 3), .int .i64 (G k 4)]
      have cb := hbel.alloc hbel.size (.cells #[.int .i64 (G k 3), .int .i64 (G k 4)] 72)
      clear b0 b2 b3 hbel
      generalize wr.alloc (.cells #[.int .i64 (G k 3), .int .i64 (G k 4)] 72) = w0 at *
      have m3 : w0.cell? ⟨w.heap.size, 3, none⟩ = some (.int .i64 (G k 3)) := c0.cell 3
      have m4 : w0.cell? ⟨w.heap.size, 4, none⟩ = some (.int .i64 (G k 4)) := c0.cell 4
      have m5 : w0.cell? ⟨w.heap.size, 5, none⟩ = some (.int .i64 (G k 5)) := c0.cell 5
      have m6 : w0.cell? ⟨w.heap.size, 6, none⟩ = some (.int .i64 (G k 6)) := c0.cell 6
      have m7 : w0.cell? ⟨w.heap.size, 7, none⟩ = some (.int .i64 (G k 7)) := c0.cell 7
      have q0 : w0.cell? ⟨wr.heap.size, 0, none⟩ = some (.int .i64 (G k 3)) := c7.cell 0
      have q1 : w0.cell? ⟨wr.heap.size, 1, none⟩ = some (.int .i64 (G k 4)) := c7.cell 1
      have hq0 := hide (Hq.out.below cb)
      have Ht := hide (turned_ok (G k 3) (G k 4) (2 * G k 3 + G k 5) (2 * G k 4 + G k 6) (G k 7) w0 hq0.out (by omega) (by omega) (by omega) (by omega) (by omega))
      go_wp2_with fail
      refine Ht.out.mono ?_
      rintro e w1 ⟨rfl, d, rfl⟩
      have eX : tuX (G k 3) (G k 4) (2 * G k 3 + G k 5) (2 * G k 4 + G k 6) (G k 7) = X 0 := by rw [← HX.out]; rfl
      have eY : tuY (G k 3) (G k 4) (2 * G k 3 + G k 5) (2 * G k 4 + G k 6) (G k 7) = Y 0 := by rw [← HY.out]; rfl
      rw [eX, eY]
      have d0 := c0.drewN d
      have d2 := c2.drewN d
      have d3 := c3.drewN d
      have db := below_drewN cb d
      clear c0 c2 c3 c7 cb m3 m4 m5 m6 m7 q0 q1 Ht hq0 eX eY
      generalize w0.drewN d = wd at *
      have f0 : wd.cell? ⟨w.heap.size + 1 + 1, 0, none⟩ = some (.int .i64 0) := d3.cell 0
      have f1 : wd.cell? ⟨w.heap.size + 1 + 1, 1, none⟩ = some (.int .i64 0) := d3.cell 1
      have f2 : wd.cell? ⟨w.heap.size + 1 + 1, 2, none⟩ = some (.int .i64 0) := d3.cell 2
      have f3 : wd.cell? ⟨w.heap.size + 1 + 1, 3, none⟩ = some (.int .i64 0) := d3.cell 3
      have z0 : wd.frozen? ⟨w.heap.size + 1 + 1, 0, none⟩ = false := d3.frozen 0
      have z1 : wd.frozen? ⟨w.heap.size + 1 + 1, 1, none⟩ = false := d3.frozen 1
      have z2 : wd.frozen? ⟨w.heap.size + 1 + 1, 2, none⟩ = false := d3.frozen 2
      have z3 : wd.frozen? ⟨w.heap.size + 1 + 1, 3, none⟩ = false := d3.frozen 3
      go_wp2_with fail
      exact ⟨⟨1, 1, .inr (.inl ⟨rfl, rfl⟩), rfl, ((((((((d0.far (p := ⟨w.heap.size + 1 + 1, 0, none⟩) (by simp <;> omega) (.int .i64 (X 0))).far (p := ⟨w.heap.size + 1 + 1, 1, none⟩) (by simp <;> omega) (.int .i64 (Y 0))).far (p := ⟨w.heap.size + 1 + 1, 2, none⟩) (by simp <;> omega) (.int .i64 (X 0))).far (p := ⟨w.heap.size + 1 + 1, 3, none⟩) (by simp <;> omega) (.int .i64 (Y 0))).far (p := ⟨w.heap.size + 1 + 1, 0, none⟩) (by simp <;> omega) (.int .i64 (X 0))).far (p := ⟨w.heap.size + 1 + 1, 1, none⟩) (by simp <;> omega) (.int .i64 (Y 0))).far (p := ⟨w.heap.size + 1 + 1, 2, none⟩) (by simp <;> omega) (.int .i64 (X 0))).far (p := ⟨w.heap.size + 1 + 1, 3, none⟩) (by simp <;> omega) (.int .i64 (Y 0))), ((((((((d2.far (p := ⟨w.heap.size + 1 + 1, 0, none⟩) (by simp <;> omega) (.int .i64 (X 0))).far (p := ⟨w.heap.size + 1 + 1, 1, none⟩) (by simp <;> omega) (.int .i64 (Y 0))).far (p := ⟨w.heap.size + 1 + 1, 2, none⟩) (by simp <;> omega) (.int .i64 (X 0))).far (p := ⟨w.heap.size + 1 + 1, 3, none⟩) (by simp <;> omega) (.int .i64 (Y 0))).far (p := ⟨w.heap.size + 1 + 1, 0, none⟩) (by simp <;> omega) (.int .i64 (X 0))).far (p := ⟨w.heap.size + 1 + 1, 1, none⟩) (by simp <;> omega) (.int .i64 (Y 0))).far (p := ⟨w.heap.size + 1 + 1, 2, none⟩) (by simp <;> omega) (.int .i64 (X 0))).far (p := ⟨w.heap.size + 1 + 1, 3, none⟩) (by simp <;> omega) (.int .i64 (Y 0))), blk_cells (by simp [frM, frC, mnU, mxU]) ((((((((d3.set_ 0 (.int .i64 (X 0))).set_ 1 (.int .i64 (Y 0))).set_ 2 (.int .i64 (X 0))).set_ 3 (.int .i64 (Y 0))).set_ 0 (.int .i64 (X 0))).set_ 1 (.int .i64 (Y 0))).set_ 2 (.int .i64 (X 0))).set_ 3 (.int .i64 (Y 0))), ((((((((db.setCell (p := ⟨w.heap.size + 1 + 1, 0, none⟩) (by simp <;> omega) (.int .i64 (X 0))).setCell (p := ⟨w.heap.size + 1 + 1, 1, none⟩) (by simp <;> omega) (.int .i64 (Y 0))).setCell (p := ⟨w.heap.size + 1 + 1, 2, none⟩) (by simp <;> omega) (.int .i64 (X 0))).setCell (p := ⟨w.heap.size + 1 + 1, 3, none⟩) (by simp <;> omega) (.int .i64 (Y 0))).setCell (p := ⟨w.heap.size + 1 + 1, 0, none⟩) (by simp <;> omega) (.int .i64 (X 0))).setCell (p := ⟨w.heap.size + 1 + 1, 1, none⟩) (by simp <;> omega) (.int .i64 (Y 0))).setCell (p := ⟨w.heap.size + 1 + 1, 2, none⟩) (by simp <;> omega) (.int .i64 (X 0))).setCell (p := ⟨w.heap.size + 1 + 1, 3, none⟩) (by simp <;> omega) (.int .i64 (Y 0)))⟩, by simp only [intOf]; decide⟩
    · have hix : ∀ wx : World, (Instr.index 73 (.agg #[.int .i64 (G k 3), .int .i64 (G k 4), .int .i64 (G k 3 + G k 5), .int .i64 (G k 4), .int .i64 (G k 3 + G k 5), .int .i64 (G k 4 + G k 6), .int .i64 (G k 3), .int .i64 (G k 4 + G k 6)]) (.int .i64 1)).run Tryd.prog wx = .ok (.agg #[.int .i64 (G k 3 + G k 5), .int .i64 (G k 4)]) wx := fun _ => by kernel_rfl
      go_upto_region 5 with fail
      have hg3 := b3.lt
      have c0 := b0.alloc (.cells #[.int .i64 (G k 3 + G k 5), .int .i64 (G k 4)] 72)
      have c2 := b2.alloc (.cells #[.int .i64 (G k 3 + G k 5), .int .i64 (G k 4)] 72)
      have c3 := b3.alloc (.cells #[.int .i64 (G k 3 + G k 5), .int .i64 (G k 4)] 72)
      have c7 := Blk.new wr 72 #[.int .i64 (G k 3 + G k 5), .int .i64 (G k 4)]
      have cb := hbel.alloc hbel.size (.cells #[.int .i64 (G k 3 + G k 5), .int .i64 (G k 4)] 72)
      clear b0 b2 b3 hbel
      generalize wr.alloc (.cells #[.int .i64 (G k 3 + G k 5), .int .i64 (G k 4)] 72) = w0 at *
      have m3 : w0.cell? ⟨w.heap.size, 3, none⟩ = some (.int .i64 (G k 3)) := c0.cell 3
      have m4 : w0.cell? ⟨w.heap.size, 4, none⟩ = some (.int .i64 (G k 4)) := c0.cell 4
      have m5 : w0.cell? ⟨w.heap.size, 5, none⟩ = some (.int .i64 (G k 5)) := c0.cell 5
      have m6 : w0.cell? ⟨w.heap.size, 6, none⟩ = some (.int .i64 (G k 6)) := c0.cell 6
      have m7 : w0.cell? ⟨w.heap.size, 7, none⟩ = some (.int .i64 (G k 7)) := c0.cell 7
      have q0 : w0.cell? ⟨wr.heap.size, 0, none⟩ = some (.int .i64 (G k 3 + G k 5)) := c7.cell 0
      have q1 : w0.cell? ⟨wr.heap.size, 1, none⟩ = some (.int .i64 (G k 4)) := c7.cell 1
      have hq0 := hide (Hq.out.below cb)
      have Ht := hide (turned_ok (G k 3 + G k 5) (G k 4) (2 * G k 3 + G k 5) (2 * G k 4 + G k 6) (G k 7) w0 hq0.out (by omega) (by omega) (by omega) (by omega) (by omega))
      go_wp2_with fail
      refine Ht.out.mono ?_
      rintro e w1 ⟨rfl, d, rfl⟩
      have eX : tuX (G k 3 + G k 5) (G k 4) (2 * G k 3 + G k 5) (2 * G k 4 + G k 6) (G k 7) = X 1 := by rw [← HX.out]; rfl
      have eY : tuY (G k 3 + G k 5) (G k 4) (2 * G k 3 + G k 5) (2 * G k 4 + G k 6) (G k 7) = Y 1 := by rw [← HY.out]; rfl
      rw [eX, eY]
      have d0 := c0.drewN d
      have d2 := c2.drewN d
      have d3 := c3.drewN d
      have db := below_drewN cb d
      clear c0 c2 c3 c7 cb m3 m4 m5 m6 m7 q0 q1 Ht hq0 eX eY
      generalize w0.drewN d = wd at *
      have f0 : wd.cell? ⟨w.heap.size + 1 + 1, 0, none⟩ = some (.int .i64 (mnU X 1)) := d3.cell 0
      have f1 : wd.cell? ⟨w.heap.size + 1 + 1, 1, none⟩ = some (.int .i64 (mnU Y 1)) := d3.cell 1
      have f2 : wd.cell? ⟨w.heap.size + 1 + 1, 2, none⟩ = some (.int .i64 (mxU X 1)) := d3.cell 2
      have f3 : wd.cell? ⟨w.heap.size + 1 + 1, 3, none⟩ = some (.int .i64 (mxU Y 1)) := d3.cell 3
      have z0 : wd.frozen? ⟨w.heap.size + 1 + 1, 0, none⟩ = false := d3.frozen 0
      have z1 : wd.frozen? ⟨w.heap.size + 1 + 1, 1, none⟩ = false := d3.frozen 1
      have z2 : wd.frozen? ⟨w.heap.size + 1 + 1, 2, none⟩ = false := d3.frozen 2
      have z3 : wd.frozen? ⟨w.heap.size + 1 + 1, 3, none⟩ = false := d3.frozen 3
      go_wp2_with fail
      exact ⟨⟨2, 2, .inr (.inr (.inl ⟨rfl, rfl⟩)), rfl, ((((d0.far (p := ⟨w.heap.size + 1 + 1, 0, none⟩) (by simp <;> omega) (.int .i64 (if X 1 < mnU X 1 then X 1 else mnU X 1))).far (p := ⟨w.heap.size + 1 + 1, 1, none⟩) (by simp <;> omega) (.int .i64 (if Y 1 < mnU Y 1 then Y 1 else mnU Y 1))).far (p := ⟨w.heap.size + 1 + 1, 2, none⟩) (by simp <;> omega) (.int .i64 (if mxU X 1 < X 1 then X 1 else mxU X 1))).far (p := ⟨w.heap.size + 1 + 1, 3, none⟩) (by simp <;> omega) (.int .i64 (if mxU Y 1 < Y 1 then Y 1 else mxU Y 1))), ((((d2.far (p := ⟨w.heap.size + 1 + 1, 0, none⟩) (by simp <;> omega) (.int .i64 (if X 1 < mnU X 1 then X 1 else mnU X 1))).far (p := ⟨w.heap.size + 1 + 1, 1, none⟩) (by simp <;> omega) (.int .i64 (if Y 1 < mnU Y 1 then Y 1 else mnU Y 1))).far (p := ⟨w.heap.size + 1 + 1, 2, none⟩) (by simp <;> omega) (.int .i64 (if mxU X 1 < X 1 then X 1 else mxU X 1))).far (p := ⟨w.heap.size + 1 + 1, 3, none⟩) (by simp <;> omega) (.int .i64 (if mxU Y 1 < Y 1 then Y 1 else mxU Y 1))), blk_cells (by simp [frM, frC, mnU, mxU]) ((((d3.set_ 0 (.int .i64 (if X 1 < mnU X 1 then X 1 else mnU X 1))).set_ 1 (.int .i64 (if Y 1 < mnU Y 1 then Y 1 else mnU Y 1))).set_ 2 (.int .i64 (if mxU X 1 < X 1 then X 1 else mxU X 1))).set_ 3 (.int .i64 (if mxU Y 1 < Y 1 then Y 1 else mxU Y 1))), ((((db.setCell (p := ⟨w.heap.size + 1 + 1, 0, none⟩) (by simp <;> omega) (.int .i64 (if X 1 < mnU X 1 then X 1 else mnU X 1))).setCell (p := ⟨w.heap.size + 1 + 1, 1, none⟩) (by simp <;> omega) (.int .i64 (if Y 1 < mnU Y 1 then Y 1 else mnU Y 1))).setCell (p := ⟨w.heap.size + 1 + 1, 2, none⟩) (by simp <;> omega) (.int .i64 (if mxU X 1 < X 1 then X 1 else mxU X 1))).setCell (p := ⟨w.heap.size + 1 + 1, 3, none⟩) (by simp <;> omega) (.int .i64 (if mxU Y 1 < Y 1 then Y 1 else mxU Y 1)))⟩, by simp only [intOf]; decide⟩
    · have hix : ∀ wx : World, (Instr.index 73 (.agg #[.int .i64 (G k 3), .int .i64 (G k 4), .int .i64 (G k 3 + G k 5), .int .i64 (G k 4), .int .i64 (G k 3 + G k 5), .int .i64 (G k 4 + G k 6), .int .i64 (G k 3), .int .i64 (G k 4 + G k 6)]) (.int .i64 2)).run Tryd.prog wx = .ok (.agg #[.int .i64 (G k 3 + G k 5), .int .i64 (G k 4 + G k 6)]) wx := fun _ => by kernel_rfl
      go_upto_region 5 with fail
      have hg3 := b3.lt
      have c0 := b0.alloc (.cells #[.int .i64 (G k 3 + G k 5), .int .i64 (G k 4 + G k 6)] 72)
      have c2 := b2.alloc (.cells #[.int .i64 (G k 3 + G k 5), .int .i64 (G k 4 + G k 6)] 72)
      have c3 := b3.alloc (.cells #[.int .i64 (G k 3 + G k 5), .int .i64 (G k 4 + G k 6)] 72)
      have c7 := Blk.new wr 72 #[.int .i64 (G k 3 + G k 5), .int .i64 (G k 4 + G k 6)]
      have cb := hbel.alloc hbel.size (.cells #[.int .i64 (G k 3 + G k 5), .int .i64 (G k 4 + G k 6)] 72)
      clear b0 b2 b3 hbel
      generalize wr.alloc (.cells #[.int .i64 (G k 3 + G k 5), .int .i64 (G k 4 + G k 6)] 72) = w0 at *
      have m3 : w0.cell? ⟨w.heap.size, 3, none⟩ = some (.int .i64 (G k 3)) := c0.cell 3
      have m4 : w0.cell? ⟨w.heap.size, 4, none⟩ = some (.int .i64 (G k 4)) := c0.cell 4
      have m5 : w0.cell? ⟨w.heap.size, 5, none⟩ = some (.int .i64 (G k 5)) := c0.cell 5
      have m6 : w0.cell? ⟨w.heap.size, 6, none⟩ = some (.int .i64 (G k 6)) := c0.cell 6
      have m7 : w0.cell? ⟨w.heap.size, 7, none⟩ = some (.int .i64 (G k 7)) := c0.cell 7
      have q0 : w0.cell? ⟨wr.heap.size, 0, none⟩ = some (.int .i64 (G k 3 + G k 5)) := c7.cell 0
      have q1 : w0.cell? ⟨wr.heap.size, 1, none⟩ = some (.int .i64 (G k 4 + G k 6)) := c7.cell 1
      have hq0 := hide (Hq.out.below cb)
      have Ht := hide (turned_ok (G k 3 + G k 5) (G k 4 + G k 6) (2 * G k 3 + G k 5) (2 * G k 4 + G k 6) (G k 7) w0 hq0.out (by omega) (by omega) (by omega) (by omega) (by omega))
      go_wp2_with fail
      refine Ht.out.mono ?_
      rintro e w1 ⟨rfl, d, rfl⟩
      have eX : tuX (G k 3 + G k 5) (G k 4 + G k 6) (2 * G k 3 + G k 5) (2 * G k 4 + G k 6) (G k 7) = X 2 := by rw [← HX.out]; rfl
      have eY : tuY (G k 3 + G k 5) (G k 4 + G k 6) (2 * G k 3 + G k 5) (2 * G k 4 + G k 6) (G k 7) = Y 2 := by rw [← HY.out]; rfl
      rw [eX, eY]
      have d0 := c0.drewN d
      have d2 := c2.drewN d
      have d3 := c3.drewN d
      have db := below_drewN cb d
      clear c0 c2 c3 c7 cb m3 m4 m5 m6 m7 q0 q1 Ht hq0 eX eY
      generalize w0.drewN d = wd at *
      have f0 : wd.cell? ⟨w.heap.size + 1 + 1, 0, none⟩ = some (.int .i64 (mnU X 2)) := d3.cell 0
      have f1 : wd.cell? ⟨w.heap.size + 1 + 1, 1, none⟩ = some (.int .i64 (mnU Y 2)) := d3.cell 1
      have f2 : wd.cell? ⟨w.heap.size + 1 + 1, 2, none⟩ = some (.int .i64 (mxU X 2)) := d3.cell 2
      have f3 : wd.cell? ⟨w.heap.size + 1 + 1, 3, none⟩ = some (.int .i64 (mxU Y 2)) := d3.cell 3
      have z0 : wd.frozen? ⟨w.heap.size + 1 + 1, 0, none⟩ = false := d3.frozen 0
      have z1 : wd.frozen? ⟨w.heap.size + 1 + 1, 1, none⟩ = false := d3.frozen 1
      have z2 : wd.frozen? ⟨w.heap.size + 1 + 1, 2, none⟩ = false := d3.frozen 2
      have z3 : wd.frozen? ⟨w.heap.size + 1 + 1, 3, none⟩ = false := d3.frozen 3
      go_wp2_with fail
      exact ⟨⟨3, 3, .inr (.inr (.inr (.inl ⟨rfl, rfl⟩))), rfl, ((((d0.far (p := ⟨w.heap.size + 1 + 1, 0, none⟩) (by simp <;> omega) (.int .i64 (if X 2 < mnU X 2 then X 2 else mnU X 2))).far (p := ⟨w.heap.size + 1 + 1, 1, none⟩) (by simp <;> omega) (.int .i64 (if Y 2 < mnU Y 2 then Y 2 else mnU Y 2))).far (p := ⟨w.heap.size + 1 + 1, 2, none⟩) (by simp <;> omega) (.int .i64 (if mxU X 2 < X 2 then X 2 else mxU X 2))).far (p := ⟨w.heap.size + 1 + 1, 3, none⟩) (by simp <;> omega) (.int .i64 (if mxU Y 2 < Y 2 then Y 2 else mxU Y 2))), ((((d2.far (p := ⟨w.heap.size + 1 + 1, 0, none⟩) (by simp <;> omega) (.int .i64 (if X 2 < mnU X 2 then X 2 else mnU X 2))).far (p := ⟨w.heap.size + 1 + 1, 1, none⟩) (by simp <;> omega) (.int .i64 (if Y 2 < mnU Y 2 then Y 2 else mnU Y 2))).far (p := ⟨w.heap.size + 1 + 1, 2, none⟩) (by simp <;> omega) (.int .i64 (if mxU X 2 < X 2 then X 2 else mxU X 2))).far (p := ⟨w.heap.size + 1 + 1, 3, none⟩) (by simp <;> omega) (.int .i64 (if mxU Y 2 < Y 2 then Y 2 else mxU Y 2))), blk_cells (by simp [frM, frC, mnU, mxU]) ((((d3.set_ 0 (.int .i64 (if X 2 < mnU X 2 then X 2 else mnU X 2))).set_ 1 (.int .i64 (if Y 2 < mnU Y 2 then Y 2 else mnU Y 2))).set_ 2 (.int .i64 (if mxU X 2 < X 2 then X 2 else mxU X 2))).set_ 3 (.int .i64 (if mxU Y 2 < Y 2 then Y 2 else mxU Y 2))), ((((db.setCell (p := ⟨w.heap.size + 1 + 1, 0, none⟩) (by simp <;> omega) (.int .i64 (if X 2 < mnU X 2 then X 2 else mnU X 2))).setCell (p := ⟨w.heap.size + 1 + 1, 1, none⟩) (by simp <;> omega) (.int .i64 (if Y 2 < mnU Y 2 then Y 2 else mnU Y 2))).setCell (p := ⟨w.heap.size + 1 + 1, 2, none⟩) (by simp <;> omega) (.int .i64 (if mxU X 2 < X 2 then X 2 else mxU X 2))).setCell (p := ⟨w.heap.size + 1 + 1, 3, none⟩) (by simp <;> omega) (.int .i64 (if mxU Y 2 < Y 2 then Y 2 else mxU Y 2)))⟩, by simp only [intOf]; decide⟩
    · have hix : ∀ wx : World, (Instr.index 73 (.agg #[.int .i64 (G k 3), .int .i64 (G k 4), .int .i64 (G k 3 + G k 5), .int .i64 (G k 4), .int .i64 (G k 3 + G k 5), .int .i64 (G k 4 + G k 6), .int .i64 (G k 3), .int .i64 (G k 4 + G k 6)]) (.int .i64 3)).run Tryd.prog wx = .ok (.agg #[.int .i64 (G k 3), .int .i64 (G k 4 + G k 6)]) wx := fun _ => by kernel_rfl
      go_upto_region 5 with fail
      have hg3 := b3.lt
      have c0 := b0.alloc (.cells #[.int .i64 (G k 3), .int .i64 (G k 4 + G k 6)] 72)
      have c2 := b2.alloc (.cells #[.int .i64 (G k 3), .int .i64 (G k 4 + G k 6)] 72)
      have c3 := b3.alloc (.cells #[.int .i64 (G k 3), .int .i64 (G k 4 + G k 6)] 72)
      have c7 := Blk.new wr 72 #[.int .i64 (G k 3), .int .i64 (G k 4 + G k 6)]
      have cb := hbel.alloc hbel.size (.cells #[.int .i64 (G k 3), .int .i64 (G k 4 + G k 6)] 72)
      clear b0 b2 b3 hbel
      generalize wr.alloc (.cells #[.int .i64 (G k 3), .int .i64 (G k 4 + G k 6)] 72) = w0 at *
      have m3 : w0.cell? ⟨w.heap.size, 3, none⟩ = some (.int .i64 (G k 3)) := c0.cell 3
      have m4 : w0.cell? ⟨w.heap.size, 4, none⟩ = some (.int .i64 (G k 4)) := c0.cell 4
      have m5 : w0.cell? ⟨w.heap.size, 5, none⟩ = some (.int .i64 (G k 5)) := c0.cell 5
      have m6 : w0.cell? ⟨w.heap.size, 6, none⟩ = some (.int .i64 (G k 6)) := c0.cell 6
      have m7 : w0.cell? ⟨w.heap.size, 7, none⟩ = some (.int .i64 (G k 7)) := c0.cell 7
      have q0 : w0.cell? ⟨wr.heap.size, 0, none⟩ = some (.int .i64 (G k 3)) := c7.cell 0
      have q1 : w0.cell? ⟨wr.heap.size, 1, none⟩ = some (.int .i64 (G k 4 + G k 6)) := c7.cell 1
      have hq0 := hide (Hq.out.below cb)
      have Ht := hide (turned_ok (G k 3) (G k 4 + G k 6) (2 * G k 3 + G k 5) (2 * G k 4 + G k 6) (G k 7) w0 hq0.out (by omega) (by omega) (by omega) (by omega) (by omega))
      go_wp2_with fail
      refine Ht.out.mono ?_
      rintro e w1 ⟨rfl, d, rfl⟩
      have eX : tuX (G k 3) (G k 4 + G k 6) (2 * G k 3 + G k 5) (2 * G k 4 + G k 6) (G k 7) = X 3 := by rw [← HX.out]; rfl
      have eY : tuY (G k 3) (G k 4 + G k 6) (2 * G k 3 + G k 5) (2 * G k 4 + G k 6) (G k 7) = Y 3 := by rw [← HY.out]; rfl
      rw [eX, eY]
      have d0 := c0.drewN d
      have d2 := c2.drewN d
      have d3 := c3.drewN d
      have db := below_drewN cb d
      clear c0 c2 c3 c7 cb m3 m4 m5 m6 m7 q0 q1 Ht hq0 eX eY
      generalize w0.drewN d = wd at *
      have f0 : wd.cell? ⟨w.heap.size + 1 + 1, 0, none⟩ = some (.int .i64 (mnU X 3)) := d3.cell 0
      have f1 : wd.cell? ⟨w.heap.size + 1 + 1, 1, none⟩ = some (.int .i64 (mnU Y 3)) := d3.cell 1
      have f2 : wd.cell? ⟨w.heap.size + 1 + 1, 2, none⟩ = some (.int .i64 (mxU X 3)) := d3.cell 2
      have f3 : wd.cell? ⟨w.heap.size + 1 + 1, 3, none⟩ = some (.int .i64 (mxU Y 3)) := d3.cell 3
      have z0 : wd.frozen? ⟨w.heap.size + 1 + 1, 0, none⟩ = false := d3.frozen 0
      have z1 : wd.frozen? ⟨w.heap.size + 1 + 1, 1, none⟩ = false := d3.frozen 1
      have z2 : wd.frozen? ⟨w.heap.size + 1 + 1, 2, none⟩ = false := d3.frozen 2
      have z3 : wd.frozen? ⟨w.heap.size + 1 + 1, 3, none⟩ = false := d3.frozen 3
      go_wp2_with fail
      exact ⟨⟨4, 4, .inr (.inr (.inr (.inr (⟨rfl, rfl⟩)))), rfl, ((((d0.far (p := ⟨w.heap.size + 1 + 1, 0, none⟩) (by simp <;> omega) (.int .i64 (if X 3 < mnU X 3 then X 3 else mnU X 3))).far (p := ⟨w.heap.size + 1 + 1, 1, none⟩) (by simp <;> omega) (.int .i64 (if Y 3 < mnU Y 3 then Y 3 else mnU Y 3))).far (p := ⟨w.heap.size + 1 + 1, 2, none⟩) (by simp <;> omega) (.int .i64 (if mxU X 3 < X 3 then X 3 else mxU X 3))).far (p := ⟨w.heap.size + 1 + 1, 3, none⟩) (by simp <;> omega) (.int .i64 (if mxU Y 3 < Y 3 then Y 3 else mxU Y 3))), ((((d2.far (p := ⟨w.heap.size + 1 + 1, 0, none⟩) (by simp <;> omega) (.int .i64 (if X 3 < mnU X 3 then X 3 else mnU X 3))).far (p := ⟨w.heap.size + 1 + 1, 1, none⟩) (by simp <;> omega) (.int .i64 (if Y 3 < mnU Y 3 then Y 3 else mnU Y 3))).far (p := ⟨w.heap.size + 1 + 1, 2, none⟩) (by simp <;> omega) (.int .i64 (if mxU X 3 < X 3 then X 3 else mxU X 3))).far (p := ⟨w.heap.size + 1 + 1, 3, none⟩) (by simp <;> omega) (.int .i64 (if mxU Y 3 < Y 3 then Y 3 else mxU Y 3))), blk_cells (by simp [frM, frC, mnU, mxU]) ((((d3.set_ 0 (.int .i64 (if X 3 < mnU X 3 then X 3 else mnU X 3))).set_ 1 (.int .i64 (if Y 3 < mnU Y 3 then Y 3 else mnU Y 3))).set_ 2 (.int .i64 (if mxU X 3 < X 3 then X 3 else mxU X 3))).set_ 3 (.int .i64 (if mxU Y 3 < Y 3 then Y 3 else mxU Y 3))), ((((db.setCell (p := ⟨w.heap.size + 1 + 1, 0, none⟩) (by simp <;> omega) (.int .i64 (if X 3 < mnU X 3 then X 3 else mnU X 3))).setCell (p := ⟨w.heap.size + 1 + 1, 1, none⟩) (by simp <;> omega) (.int .i64 (if Y 3 < mnU Y 3 then Y 3 else mnU Y 3))).setCell (p := ⟨w.heap.size + 1 + 1, 2, none⟩) (by simp <;> omega) (.int .i64 (if mxU X 3 < X 3 then X 3 else mxU X 3))).setCell (p := ⟨w.heap.size + 1 + 1, 3, none⟩) (by simp <;> omega) (.int .i64 (if mxU Y 3 < Y 3 then Y 3 else mxU Y 3)))⟩, by simp only [intOf]; decide⟩
    · have hg3 := b3.lt
      have f0 : wr.cell? ⟨w.heap.size + 1 + 1, 0, none⟩ = some (.int .i64 (mnU X 4)) := b3.cell 0
      have f1 : wr.cell? ⟨w.heap.size + 1 + 1, 1, none⟩ = some (.int .i64 (mnU Y 4)) := b3.cell 1
      have f2 : wr.cell? ⟨w.heap.size + 1 + 1, 2, none⟩ = some (.int .i64 (mxU X 4)) := b3.cell 2
      have f3 : wr.cell? ⟨w.heap.size + 1 + 1, 3, none⟩ = some (.int .i64 (mxU Y 4)) := b3.cell 3
      have n0 : wr.cell? ⟨w.heap.size + 1, 0, none⟩ = some (.int .i64 0) := b2.cell 0
      have n1 : wr.cell? ⟨w.heap.size + 1, 1, none⟩ = some (.int .i64 0) := b2.cell 1
      have n2 : wr.cell? ⟨w.heap.size + 1, 2, none⟩ = some (.int .i64 0) := b2.cell 2
      have n3 : wr.cell? ⟨w.heap.size + 1, 3, none⟩ = some (.int .i64 0) := b2.cell 3
      have z0 : wr.frozen? ⟨w.heap.size + 1, 0, none⟩ = false := b2.frozen 0
      have z1 : wr.frozen? ⟨w.heap.size + 1, 1, none⟩ = false := b2.frozen 1
      have z2 : wr.frozen? ⟨w.heap.size + 1, 2, none⟩ = false := b2.frozen 2
      have z3 : wr.frozen? ⟨w.heap.size + 1, 3, none⟩ = false := b2.frozen 3
      go_wp2_with fail
      have e4 := ((((b2.set_ 0 (.int .i64 (mnU X 4))).set_ 1 (.int .i64 (mnU Y 4))).set_ 2 (.int .i64 (mxU X 4))).set_ 3 (.int .i64 (mxU Y 4)))
      have eb := ((((hbel.setCell (p := ⟨w.heap.size + 1, 0, none⟩) (by simp) (.int .i64 (mnU X 4))).setCell (p := ⟨w.heap.size + 1, 1, none⟩) (by simp) (.int .i64 (mnU Y 4))).setCell (p := ⟨w.heap.size + 1, 2, none⟩) (by simp) (.int .i64 (mxU X 4))).setCell (p := ⟨w.heap.size + 1, 3, none⟩) (by simp) (.int .i64 (mxU Y 4)))
      clear b0 b2 b3 hbel f0 f1 f2 f3 n0 n1 n2 n3 z0 z1 z2 z3
      generalize ((((wr.setCell ⟨w.heap.size + 1, 0, none⟩ (.int .i64 (mnU X 4))).setCell ⟨w.heap.size + 1, 1, none⟩ (.int .i64 (mnU Y 4))).setCell ⟨w.heap.size + 1, 2, none⟩ (.int .i64 (mxU X 4))).setCell ⟨w.heap.size + 1, 3, none⟩ (.int .i64 (mxU Y 4))) = wz at *
      replace e4 := blk_cells (b := #[.int .i64 (mnU X 4), .int .i64 (mnU Y 4), .int .i64 (mxU X 4), .int .i64 (mxU Y 4)]) (by simp) e4
      have c0 : wz.cell? ⟨w.heap.size + 1, 0, none⟩ = some (.int .i64 (mnU X 4)) := e4.cell 0
      have c1 : wz.cell? ⟨w.heap.size + 1, 1, none⟩ = some (.int .i64 (mnU Y 4)) := e4.cell 1
      have c2 : wz.cell? ⟨w.heap.size + 1, 2, none⟩ = some (.int .i64 (mxU X 4)) := e4.cell 2
      have c3 : wz.cell? ⟨w.heap.size + 1, 3, none⟩ = some (.int .i64 (mxU Y 4)) := e4.cell 3
      exact bodyPost_ret (v := .agg #[.int .i64 (mnU X 4), .int .i64 (mnU Y 4), .int .i64 (mxU X 4), .int .i64 (mxU Y 4)]) (by simp [results, Tryd.results33, go_sem, c0, c1, c2, c3]) rfl ⟨rfl, eb⟩

/-- the range of a shape along an axis: 0 across, 1 down -/
def exLo (G : Nat → Nat → Int) (k : Nat) (ax : Int) : Int := if ax = 0 then mnU (ctX G k) 4 else mnU (ctY G k) 4
def exHi (G : Nat → Nat → Int) (k : Nat) (ax : Int) : Int := if ax = 0 then mxU (ctX G k) 4 else mxU (ctY G k) 4
set_option maxRecDepth 100000 in
set_option maxHeartbeats 2000000 in
theorem extent_ok (n k : Nat) (G : Nat → Nat → Int) (T : Nat → Nat → ByteArray) (ax : Int) (w : World) (hq : TabQ w) (ho : ShOk G n) (hk : k < n) :
    Calls Tryd.prog 31 #[shA G T k, .int .i64 ax] w fun e w' => e = .returned (.tuple #[.int .i64 (exLo G k ax), .int .i64 (exHi G k ax)]) ∧ Below w.heap.size w w' := by
  have hb0 : Below w.heap.size w (w.alloc (.cells (shC G T k) 23)) := (Below.refl _ _).alloc (Nat.le_refl _) _
  have Hf := hide (frame_ok n k G T _ (hq.below hb0) ho hk)
  have bs : Blk (w.alloc (.cells (shC G T k) 23)) w.heap.size 23 (shC G T k) := Blk.new w _ _
  have hlo : exLo G k ax = if ax = 0 then mnU (ctX G k) 4 else mnU (ctY G k) 4 := rfl
  have hhi : exHi G k ax = if ax = 0 then mxU (ctX G k) 4 else mxU (ctY G k) 4 := rfl
  generalize exLo G k ax = lo at *
  generalize exHi G k ax = hi at *
  generalize mnU (ctX G k) 4 = x0 at *
  generalize mnU (ctY G k) 4 = y0 at *
  generalize mxU (ctX G k) 4 = x1 at *
  generalize mxU (ctY G k) 4 = y1 at *
  clear hq ho
  unfold shA at Hf
  unfold shC at hb0 bs Hf
  unfold shA
  go_enter Tryd.func31, Tryd.ntmps31
  go_upto_region 1 with fail
  generalize w.alloc (.cells #[.int .i64 (G k 0), .int .i64 (G k 1), .int .i64 (G k 2), .int .i64 (G k 3), .int .i64 (G k 4), .int .i64 (G k 5), .int .i64 (G k 6), .int .i64 (G k 7), .int .i64 (G k 8), .int .i64 (G k 9), .string (T k 10), .string (T k 11)] 23) = w0 at *
  have m0 : w0.cell? ⟨w.heap.size, 0, none⟩ = some (.int .i64 (G k 0)) := bs.cell 0
  have m1 : w0.cell? ⟨w.heap.size, 1, none⟩ = some (.int .i64 (G k 1)) := bs.cell 1
  have m2 : w0.cell? ⟨w.heap.size, 2, none⟩ = some (.int .i64 (G k 2)) := bs.cell 2
  have m3 : w0.cell? ⟨w.heap.size, 3, none⟩ = some (.int .i64 (G k 3)) := bs.cell 3
  have m4 : w0.cell? ⟨w.heap.size, 4, none⟩ = some (.int .i64 (G k 4)) := bs.cell 4
  have m5 : w0.cell? ⟨w.heap.size, 5, none⟩ = some (.int .i64 (G k 5)) := bs.cell 5
  have m6 : w0.cell? ⟨w.heap.size, 6, none⟩ = some (.int .i64 (G k 6)) := bs.cell 6
  have m7 : w0.cell? ⟨w.heap.size, 7, none⟩ = some (.int .i64 (G k 7)) := bs.cell 7
  have m8 : w0.cell? ⟨w.heap.size, 8, none⟩ = some (.int .i64 (G k 8)) := bs.cell 8
  have m9 : w0.cell? ⟨w.heap.size, 9, none⟩ = some (.int .i64 (G k 9)) := bs.cell 9
  have m10 : w0.cell? ⟨w.heap.size, 10, none⟩ = some (.string (T k 10)) := bs.cell 10
  have m11 : w0.cell? ⟨w.heap.size, 11, none⟩ = some (.string (T k 11)) := bs.cell 11
  go_wp2_with fail
  refine Hf.out.mono ?_
  rintro e w1 ⟨rfl, hb1⟩
  have hbl := hb0.trans (hb1.mono hb0.size)
  have Hlo := hide hlo
  have Hhi := hide hhi
  clear hlo hhi
  go_upto_region 2 with fail
  have bf := Blk.new w1 41 #[.int .i64 x0, .int .i64 y0, .int .i64 x1, .int .i64 y1]
  have hb2 := hbl.alloc hbl.size (.cells #[.int .i64 x0, .int .i64 y0, .int .i64 x1, .int .i64 y1] 41)
  generalize w1.alloc (.cells #[.int .i64 x0, .int .i64 y0, .int .i64 x1, .int .i64 y1] 41) = w2 at *
  have f0 : w2.cell? ⟨w1.heap.size, 0, none⟩ = some (.int .i64 x0) := bf.cell 0
  have f1 : w2.cell? ⟨w1.heap.size, 1, none⟩ = some (.int .i64 y0) := bf.cell 1
  have f2 : w2.cell? ⟨w1.heap.size, 2, none⟩ = some (.int .i64 x1) := bf.cell 2
  have f3 : w2.cell? ⟨w1.heap.size, 3, none⟩ = some (.int .i64 y1) := bf.cell 3
  clear bf bs hb1 hb0 Hf hbl
  by_cases ha : ax = 0
  · have d0 : (ax == 0) = true := by simpa using ha
    have hlo := Hlo.out
    have hhi := Hhi.out
    rw [if_pos ha] at hlo hhi
    have Hl := hide hlo
    have Hh := hide hhi
    clear ha hlo hhi Hlo Hhi
    go_wp2_with fail
    go_quiet (fail)
    go_wp2_with fail
    go_ret2
    exact ⟨by rw [Hl.out, Hh.out]; rfl, below_drewN hb2 _⟩
  · have d0 : (ax == 0) = false := by simpa using ha
    have hlo := Hlo.out
    have hhi := Hhi.out
    rw [if_neg ha] at hlo hhi
    have Hl := hide hlo
    have Hh := hide hhi
    clear ha hlo hhi Hlo Hhi
    go_wp2_with fail
    go_quiet (fail)
    go_wp2_with fail
    go_ret2
    exact ⟨by rw [Hl.out, Hh.out]; rfl, below_drewN hb2 _⟩

set_option maxRecDepth 100000 in
set_option maxHeartbeats 2000000 in
theorem move_ok (b o : Nat) (ax by_ x y : Int) (w : World) (hx : w.cell? ⟨b, o + 3, none⟩ = some (.int .i64 x)) (hy : w.cell? ⟨b, o + 4, none⟩ = some (.int .i64 y)) (zx : w.frozen? ⟨b, o + 3, none⟩ = false) (zy : w.frozen? ⟨b, o + 4, none⟩ = false)
    (bx : x.natAbs ≤ 1000000000) (by1 : y.natAbs ≤ 1000000000) (bb : by_.natAbs ≤ 1000000000) :
    Calls Tryd.prog 32 #[.pointer (some ⟨b, o, none⟩), .int .i64 ax, .int .i64 by_] w fun e w' => e = .returned (.tuple #[]) ∧ w' = w.setCell (if ax = 0 then ⟨b, o + 3, none⟩ else ⟨b, o + 4, none⟩) (.int .i64 (if ax = 0 then x + by_ else y + by_)) := by
  by_cases ha : ax = 0
  · have d0 : (ax == 0) = true := by simpa using ha
    rw [if_pos ha, if_pos ha]
    clear ha
    go_enter Tryd.func32, Tryd.ntmps32
    go_wp2_with fail
    go_end0
    exact ⟨rfl, rfl⟩
  · have d0 : (ax == 0) = false := by simpa using ha
    rw [if_neg ha, if_neg ha]
    clear ha
    go_enter Tryd.func32, Tryd.ntmps32
    go_wp2_with fail
    go_end0
    exact ⟨rfl, rfl⟩
end Go.Proofs.YtnmikhmbnpiadaaDoor.Shp
