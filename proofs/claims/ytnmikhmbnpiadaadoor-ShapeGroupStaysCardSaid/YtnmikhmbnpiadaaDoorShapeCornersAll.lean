/- Contracts of package shape: Corners, Bounds. -/
import Derived.Test.YtnmikhmbnpiadaaDoorShapeCorners
import Derived.Test.YtnmikhmbnpiadaaDoorShapeCheck
namespace Go.Proofs.YtnmikhmbnpiadaaDoor.Shp
open Go.RowKit Go.Frm

def ptC4 (px py : Nat → Int) : Array Value := #[.int .i64 (px 0), .int .i64 (py 0), .int .i64 (px 1), .int .i64 (py 1), .int .i64 (px 2), .int .i64 (py 2), .int .i64 (px 3), .int .i64 (py 3)]
/-- behind a name: four points in a fresh block -/
def Pts (px py : Nat → Int) (w : World) (e : Ending) (w' : World) : Prop :=
  ∃ g, e = .returned (.tuple #[.slice (some ⟨g, 0, none⟩) 4 4, .int .i64 0]) ∧ w.heap.size ≤ g ∧ Blk w' g 54 (ptC4 px py) ∧ Below w.heap.size w w'

set_option maxRecDepth 100000 in
set_option maxHeartbeats 4000000 in
theorem Corners_ok (A : Option Addr) (n c k : Nat) (G : Nat → Nat → Int) (T : Nat → Nat → ByteArray) (px py : Nat → Int) (item : Int) (w : World) (hq : TabQ w) (ho : ShOk G n) (hr : RdF w A n 12 (shV G T)) (hnc : n ≤ c) (hk : k < n) (hi : G k 0 = item) (hc : CornersAt G n k px py) :
    Calls Tryd.prog 12 #[.slice A n c, .int .i64 item] w (Pts px py w) := by
  have hn := ho.few
  have Hch := hide (check_ok A n c G T w ho hr hnc)
  have hfa : FirstAt G n item (k : Int) := hi ▸ firstAt_of ho hk
  have Hfi := hide (fun wx (hx : RdF wx A n 12 (shV G T)) => find_ok A n c G T item wx hx (by omega) (k : Int) hfa)
  have Hco := hide (fun wx hq (hx : RdF wx A n 12 (shV G T)) => corners_ok A n c k G T px py wx hq ho hx hk hc)
  have Hq := hide hq
  clear ho hi hc hfa hq
  go_enter Tryd.func12, Tryd.ntmps12
  go_wp2_with fail
  refine Hch.out.mono ?_
  rintro e w1 ⟨rfl, hb1⟩
  have hr1 := hr.below hb1
  go_wp2_with fail
  refine (Hfi.out w1 hr1).mono ?_
  rintro e w2 ⟨rfl, hb2⟩
  have hbl2 := hb1.trans (hb2.mono hb1.size)
  have hr2 := hr.below hbl2
  obtain ⟨b, off, rfl, k0, k1, k2, k3, k4, k5, k6, k7, k8, k9, k10, k11⟩ := cells12 hr2 hk
  have hq2 := Hq.out.below hbl2
  have Hcc := Hco.out w2 hq2 hr2
  unfold shA ptsA at Hcc
  have Hcd := hide Hcc
  clear Hcc hq2
  go_wp2_with fail
  refine Hcd.out.mono ?_
  rintro e w3 ⟨rfl, hb3⟩
  have hbl3 := hbl2.trans (hb3.mono hbl2.size)
  go_upto_region 8 with fail
  have hbn := Blk.new w3 54 (ptC4 px py)
  have hbe := hbl3.alloc hbl3.size (.cells (ptC4 px py) 54)
  have hg : w.heap.size ≤ w3.heap.size := hbl3.size
  have Hbn := hide hbn
  have Hbe := hide hbe
  clear hbn hbe k0 k1 k2 k3 k4 k5 k6 k7 k8 k9 k10 k11
  go_wp2_with fail
  go_ret2
  exact ⟨w3.heap.size, rfl, hg, Hbn.out, Hbe.out⟩

/-- the cells of a point -/
def ptF (px py : Nat → Int) (i j : Nat) : Value := if j = 0 then .int .i64 (px i) else .int .i64 (py i)
theorem pts_rdF {w : World} {g : Nat} {t : TypeId} {px py : Nat → Int} (h : Blk w g t (ptC4 px py)) : RdF w (some ⟨g, 0, none⟩) 4 2 (ptF px py) := by
  refine .inr ⟨g, 0, rfl, fun i j hi hj => ?_⟩
  rw [h.cell]
  match i, j with
  | 0, 0 => rfl
  | 0, 1 => rfl
  | 1, 0 => rfl
  | 1, 1 => rfl
  | 2, 0 => rfl
  | 2, 1 => rfl
  | 3, 0 => rfl
  | 3, 1 => rfl
  | i + 4, _ => omega
  | 0, j + 2 => omega
  | 1, j + 2 => omega
  | 2, j + 2 => omega
  | 3, j + 2 => omega

/-- the least and the greatest of the first, and the first m -/
def mnU (p : Nat → Int) : Nat → Int
  | 0 => p 0
  | m + 1 => if p m < mnU p m then p m else mnU p m
def mxU (p : Nat → Int) : Nat → Int
  | 0 => p 0
  | m + 1 => if mxU p m < p m then p m else mxU p m

def frC (px py : Nat → Int) (k : Nat) : Array Value := #[.int .i64 (mnU px k), .int .i64 (mnU py k), .int .i64 (mxU px k), .int .i64 (mxU py k)]

set_option maxRecDepth 100000 in
set_option maxHeartbeats 4000000 in
theorem Bounds_ok (A : Option Addr) (n c k : Nat) (G : Nat → Nat → Int) (T : Nat → Nat → ByteArray) (px py : Nat → Int) (item : Int) (w : World) (hq : TabQ w) (ho : ShOk G n) (hr : RdF w A n 12 (shV G T)) (hnc : n ≤ c) (hk : k < n) (hi : G k 0 = item) (hc : CornersAt G n k px py) :
    Calls Tryd.prog 15 #[.slice A n c, .int .i64 item] w fun e w' => e = .returned (.tuple #[.agg #[.int .i64 (mnU px 4), .int .i64 (mnU py 4), .int .i64 (mxU px 4), .int .i64 (mxU py 4)], .int .i64 0]) ∧ Below w.heap.size w w' := by
  have hb0 : Below w.heap.size w (w.alloc (.cells #[.int .i64 0, .int .i64 0, .int .i64 0, .int .i64 0] 41)) := (Below.refl _ _).alloc (Nat.le_refl _) _
  have hn0 := Blk.new w 41 #[.int .i64 0, .int .i64 0, .int .i64 0, .int .i64 0]
  have Hco := hide (Corners_ok A n c k G T px py item (w.alloc (.cells #[.int .i64 0, .int .i64 0, .int .i64 0, .int .i64 0] 41)) (hq.below hb0) ho (hr.below hb0) hnc hk hi hc)
  clear hq ho hi hc
  go_enter Tryd.func15, Tryd.ntmps15
  go_wp2_with fail
  refine Hco.out.mono ?_
  rintro e w1 ⟨g, rfl, hg, hbk, hb1⟩
  have hn1 := hn0.below hb1 hn0.lt
  have hbl1 := hb0.trans (hb1.mono hb0.size)
  have hgl := hbk.lt
  have hgn : w.heap.size < g := Nat.lt_of_succ_le (by simpa using hg)
  have hbk0 := hide hbk
  have p0 : w1.cell? ⟨g, 0, none⟩ = some (.int .i64 (px 0)) := hbk.cell 0
  have p1 : w1.cell? ⟨g, 1, none⟩ = some (.int .i64 (py 0)) := hbk.cell 1
  clear hn0 hb0 hb1 hbk hg
  go_wp2_with fail
  go_region
  go_upto_region 6 with fail
  have a8 : Blk (w1.alloc (.cells #[.int .i64 (px 0), .int .i64 (py 0), .int .i64 (px 0), .int .i64 (py 0)] 41)).drew w1.heap.size 41 (frC px py 0) := (Blk.new w1 41 (frC px py 0)).drewN 1
  have ag : Blk (w1.alloc (.cells #[.int .i64 (px 0), .int .i64 (py 0), .int .i64 (px 0), .int .i64 (py 0)] 41)).drew g 54 (ptC4 px py) := (hbk0.out.alloc _).drewN 1
  have a4 : Blk (w1.alloc (.cells #[.int .i64 (px 0), .int .i64 (py 0), .int .i64 (px 0), .int .i64 (py 0)] 41)).drew w.heap.size 41 #[.int .i64 0, .int .i64 0, .int .i64 0, .int .i64 0] := (hn1.alloc _).drewN 1
  have ab : Below w.heap.size w (w1.alloc (.cells #[.int .i64 (px 0), .int .i64 (py 0), .int .i64 (px 0), .int .i64 (py 0)] 41)).drew := below_drewN (hbl1.alloc hbl1.size _) 1
  have hw1 : w.heap.size < w1.heap.size := by omega
  clear hbk0 hn1 hbl1 p0 p1
  generalize (w1.alloc (.cells #[.int .i64 (px 0), .int .i64 (py 0), .int .i64 (px 0), .int .i64 (py 0)] 41)).drew = w0 at *
  go_loopw [40] (fun a wr => ∃ k : Nat, k ≤ 4 ∧ a = .int .i64 k ∧ Blk wr w1.heap.size 41 (frC px py k) ∧ Blk wr g 54 (ptC4 px py) ∧ Blk wr w.heap.size 41 #[.int .i64 0, .int .i64 0, .int .i64 0, .int .i64 0] ∧ Below w.heap.size w wr) (fun a _ => 4 - (intOf a).toNat)
  case atStart => exact ⟨0, by omega, rfl, a8, ag, a4, ab⟩
  case round =>
    clear a8 ag a4 ab
    obtain ⟨k, hk4, rfl, a8, ag, a4, ab⟩ := hrel
    have hl8 := a8.lt
    by_cases hlt : k < 4
    · obtain ⟨b, off, he, hcc⟩ := (pts_rdF ag).at_ hlt
      have hp0 := hcc 0 (by omega)
      have hp1 := hcc 1 (by omega)
      injection he with he
      injection he with he1 he2
      subst he1 he2
      clear hcc
      rw [Nat.zero_add, Nat.add_zero] at hp0
      rw [Nat.zero_add] at hp1
      have k0 : wr.cell? ⟨g, k * 2, none⟩ = some (.int .i64 (px k)) := hp0
      have k1 : wr.cell? ⟨g, k * 2 + 1, none⟩ = some (.int .i64 (py k)) := hp1
      clear hp0 hp1
      go_upto_region 8 with fail
      have c8 := a8.alloc (.cells #[.int .i64 (px k), .int .i64 (py k)] 34)
      have cg := ag.alloc (.cells #[.int .i64 (px k), .int .i64 (py k)] 34)
      have c4 := a4.alloc (.cells #[.int .i64 (px k), .int .i64 (py k)] 34)
      have cn := Blk.new wr 34 #[.int .i64 (px k), .int .i64 (py k)]
      have cb := ab.alloc ab.size (.cells #[.int .i64 (px k), .int .i64 (py k)] 34)
      clear a8 ag a4 ab k0 k1
      generalize wr.alloc (.cells #[.int .i64 (px k), .int .i64 (py k)] 34) = w0 at *
      have m0 : w0.cell? ⟨w1.heap.size, 0, none⟩ = some (.int .i64 (mnU px k)) := c8.cell 0
      have m1 : w0.cell? ⟨w1.heap.size, 1, none⟩ = some (.int .i64 (mnU py k)) := c8.cell 1
      have m2 : w0.cell? ⟨w1.heap.size, 2, none⟩ = some (.int .i64 (mxU px k)) := c8.cell 2
      have m3 : w0.cell? ⟨w1.heap.size, 3, none⟩ = some (.int .i64 (mxU py k)) := c8.cell 3
      have z0 : w0.frozen? ⟨w1.heap.size, 0, none⟩ = false := c8.frozen 0
      have z1 : w0.frozen? ⟨w1.heap.size, 1, none⟩ = false := c8.frozen 1
      have z2 : w0.frozen? ⟨w1.heap.size, 2, none⟩ = false := c8.frozen 2
      have z3 : w0.frozen? ⟨w1.heap.size, 3, none⟩ = false := c8.frozen 3
      have n0 : w0.cell? ⟨wr.heap.size, 0, none⟩ = some (.int .i64 (px k)) := cn.cell 0
      have n1 : w0.cell? ⟨wr.heap.size, 1, none⟩ = some (.int .i64 (py k)) := cn.cell 1
      go_wp2_with fail
      have e8 := ((((c8.set_ 0 (.int .i64 (if px k < mnU px k then px k else mnU px k))).set_ 1 (.int .i64 (if py k < mnU py k then py k else mnU py k))).set_ 2 (.int .i64 (if mxU px k < px k then px k else mxU px k))).set_ 3 (.int .i64 (if mxU py k < py k then py k else mxU py k)))
      have eg := ((((cg.far (p := ⟨w1.heap.size, 0, none⟩) (by simp <;> omega) (.int .i64 (if px k < mnU px k then px k else mnU px k))).far (p := ⟨w1.heap.size, 1, none⟩) (by simp <;> omega) (.int .i64 (if py k < mnU py k then py k else mnU py k))).far (p := ⟨w1.heap.size, 2, none⟩) (by simp <;> omega) (.int .i64 (if mxU px k < px k then px k else mxU px k))).far (p := ⟨w1.heap.size, 3, none⟩) (by simp <;> omega) (.int .i64 (if mxU py k < py k then py k else mxU py k)))
      have e4 := ((((c4.far (p := ⟨w1.heap.size, 0, none⟩) (by simp <;> omega) (.int .i64 (if px k < mnU px k then px k else mnU px k))).far (p := ⟨w1.heap.size, 1, none⟩) (by simp <;> omega) (.int .i64 (if py k < mnU py k then py k else mnU py k))).far (p := ⟨w1.heap.size, 2, none⟩) (by simp <;> omega) (.int .i64 (if mxU px k < px k then px k else mxU px k))).far (p := ⟨w1.heap.size, 3, none⟩) (by simp <;> omega) (.int .i64 (if mxU py k < py k then py k else mxU py k)))
      have eb := ((((cb.setCell (p := ⟨w1.heap.size, 0, none⟩) (by simp <;> omega) (.int .i64 (if px k < mnU px k then px k else mnU px k))).setCell (p := ⟨w1.heap.size, 1, none⟩) (by simp <;> omega) (.int .i64 (if py k < mnU py k then py k else mnU py k))).setCell (p := ⟨w1.heap.size, 2, none⟩) (by simp <;> omega) (.int .i64 (if mxU px k < px k then px k else mxU px k))).setCell (p := ⟨w1.heap.size, 3, none⟩) (by simp <;> omega) (.int .i64 (if mxU py k < py k then py k else mxU py k)))
      have hq1 := blk_cells (b := frC px py (k + 1)) (by simp [frC, mnU, mxU]) e8
      exact ⟨⟨k + 1, by omega, by simp, hq1, eg, e4, eb⟩, by simp only [intOf]; omega⟩
    · obtain rfl : k = 4 := by omega
      have m0 : wr.cell? ⟨w1.heap.size, 0, none⟩ = some (.int .i64 (mnU px 4)) := a8.cell 0
      have m1 : wr.cell? ⟨w1.heap.size, 1, none⟩ = some (.int .i64 (mnU py 4)) := a8.cell 1
      have m2 : wr.cell? ⟨w1.heap.size, 2, none⟩ = some (.int .i64 (mxU px 4)) := a8.cell 2
      have m3 : wr.cell? ⟨w1.heap.size, 3, none⟩ = some (.int .i64 (mxU py 4)) := a8.cell 3
      have n0 : wr.cell? ⟨w.heap.size, 0, none⟩ = some (.int .i64 0) := a4.cell 0
      have n1 : wr.cell? ⟨w.heap.size, 1, none⟩ = some (.int .i64 0) := a4.cell 1
      have n2 : wr.cell? ⟨w.heap.size, 2, none⟩ = some (.int .i64 0) := a4.cell 2
      have n3 : wr.cell? ⟨w.heap.size, 3, none⟩ = some (.int .i64 0) := a4.cell 3
      have z0 : wr.frozen? ⟨w.heap.size, 0, none⟩ = false := a4.frozen 0
      have z1 : wr.frozen? ⟨w.heap.size, 1, none⟩ = false := a4.frozen 1
      have z2 : wr.frozen? ⟨w.heap.size, 2, none⟩ = false := a4.frozen 2
      have z3 : wr.frozen? ⟨w.heap.size, 3, none⟩ = false := a4.frozen 3
      go_wp2_with fail
      have e4 := (((a4.set_ 0 (.int .i64 (mnU px 4))).set_ 1 (.int .i64 (mnU py 4))).set_ 2 (.int .i64 (mxU px 4))).set_ 3 (.int .i64 (mxU py 4))
      have eb := (((ab.setCell (p := ⟨w.heap.size, 0, none⟩) (by simp) (.int .i64 (mnU px 4))).setCell (p := ⟨w.heap.size, 1, none⟩) (by simp) (.int .i64 (mnU py 4))).setCell (p := ⟨w.heap.size, 2, none⟩) (by simp) (.int .i64 (mxU px 4))).setCell (p := ⟨w.heap.size, 3, none⟩) (by simp) (.int .i64 (mxU py 4))
      clear a8 ag a4 ab m0 m1 m2 m3 n0 n1 n2 n3 z0 z1 z2 z3
      generalize (((wr.setCell ⟨w.heap.size, 0, none⟩ (.int .i64 (mnU px 4))).setCell ⟨w.heap.size, 1, none⟩ (.int .i64 (mnU py 4))).setCell ⟨w.heap.size, 2, none⟩ (.int .i64 (mxU px 4))).setCell ⟨w.heap.size, 3, none⟩ (.int .i64 (mxU py 4)) = wz at *
      replace e4 := blk_cells (b := #[.int .i64 (mnU px 4), .int .i64 (mnU py 4), .int .i64 (mxU px 4), .int .i64 (mxU py 4)]) (by simp) e4
      have c0 : wz.cell? ⟨w.heap.size, 0, none⟩ = some (.int .i64 (mnU px 4)) := e4.cell 0
      have c1 : wz.cell? ⟨w.heap.size, 1, none⟩ = some (.int .i64 (mnU py 4)) := e4.cell 1
      have c2 : wz.cell? ⟨w.heap.size, 2, none⟩ = some (.int .i64 (mxU px 4)) := e4.cell 2
      have c3 : wz.cell? ⟨w.heap.size, 3, none⟩ = some (.int .i64 (mxU py 4)) := e4.cell 3
      exact bodyPost_ret (v := .tuple #[.agg #[.int .i64 (mnU px 4), .int .i64 (mnU py 4), .int .i64 (mxU px 4), .int .i64 (mxU py 4)], .int .i64 0]) (by simp [results, Tryd.results15, go_sem, c0, c1, c2, c3]) rfl ⟨rfl, eb⟩
end Go.Proofs.YtnmikhmbnpiadaaDoor.Shp
