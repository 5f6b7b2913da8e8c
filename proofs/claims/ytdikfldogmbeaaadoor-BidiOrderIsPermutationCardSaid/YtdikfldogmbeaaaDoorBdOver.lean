/- The contract of (*para).override. -/
import Derived.Test.YtdikfldogmbeaaaDoorBdPairs
namespace Go.Proofs.YtdikfldogmbeaaaDoor.Bd
open Go.RowKit Go.Frm

set_option maxRecDepth 100000 in
set_option maxHeartbeats 2000000 in
theorem override_ok (G : Nat) (At : Option Addr) (ct n gc gl : Nat) (base : Int) (go : Nat) (mt : Value) (C : Nat → Int) (i : Nat) (l o : Int) (s : Bool) (w : World) (hp : Blk w G 44 (paC At ct n gc gl base go mt)) (hc : BI w gc n C) (hi : i < n) :
    Calls Tryd.prog 34 #[.pointer (some ⟨G, 0, none⟩), .int .i64 i, .agg #[.int .i64 l, .int .i64 o, .bool s]] w fun e w' => e = .returned (.tuple #[]) ∧ BI w' gc n (ovr C i o) ∧ Chg (Is gc) w w' := by
  have c1 : w.cell? ⟨G, 1, none⟩ = some (.slice (some ⟨gc, 0, none⟩) n n) := hp.cell 1
  have hG := hp.lt
  have hgc := hc.lt
  have cc := hc.cell hi
  have cf := hc.frozen i
  by_cases ho : 0 ≤ o
  · have hov := hide (show ovr C i o = upd C i o from if_pos ho)
    have Hw := hide (hc.set i o)
    have hg2 : Chg (Is gc) w (w.setCell ⟨gc, i, none⟩ (.int .i64 o)) := (Chg.refl _ w).setCell (p := ⟨gc, i, none⟩) (.inl (show Is gc gc from rfl)) _
    go_enter Tryd.func34, Tryd.ntmps34
    go_wp2_with fail
    go_region
    go_wp2_with fail
    refine bodyPost_end (results_none rfl _ _ _) rfl ?_
    exact ⟨rfl, by rw [hov.out]; exact Hw.out.blk.alloc _, (hg2.alloc _).drewN 1⟩
  · have hov := hide (show ovr C i o = C from if_neg ho)
    have ho2 : decide (0 ≤ o) = false := by simpa using ho
    go_enter Tryd.func34, Tryd.ntmps34
    go_wp2_with fail
    refine bodyPost_end (results_none rfl _ _ _) rfl ?_
    exact ⟨rfl, by rw [hov.out]; exact hc.blk.alloc _, (Chg.refl _ w).alloc _⟩
end Go.Proofs.YtdikfldogmbeaaaDoor.Bd
