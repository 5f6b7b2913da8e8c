/- The contract of slices.Equal on rows of api.Point that are alike. -/
import Derived.Test.YtnmikhmbnpiadaaDoorShapeCornersAll
import Derived.BigQuiet
namespace Go.Proofs.YtnmikhmbnpiadaaDoor.Shp
open Go.RowKit Go.Frm

set_option maxRecDepth 100000 in
set_option maxHeartbeats 1000000 in
theorem points_ok (A B : Option Addr) (n ca cb : Nat) (px py : Nat → Int) (w : World) (hA : RdF w A n 2 (ptF px py)) (hB : RdF w B n 2 (ptF px py)) (hn : n ≤ 100000) :
    Calls Tryd.prog 21 #[.slice A n ca, .slice B n cb] w fun e w' => e = .returned (.bool true) ∧ ∃ d, w' = w.drewN d := by
  go_enter Tryd.func21, Tryd.ntmps21
  go_wp2_with fail
  go_loopw [13] (fun a wr => ∃ (k d : Nat), k ≤ n ∧ a = .int .i64 k ∧ wr = w.drewN d) (fun a _ => n - (intOf a).toNat)
  case atStart => exact ⟨0, 0, by omega, rfl, rfl⟩
  case round =>
    obtain ⟨k, d, hk, rfl, rfl⟩ := hrel
    by_cases hlt : k < n
    · obtain ⟨b1, o1, rfl, h1⟩ := hA.at_ hlt
      obtain ⟨b2, o2, rfl, h2⟩ := hB.at_ hlt
      have p0 : w.cell? ⟨b1, o1 + k * 2, none⟩ = some (.int .i64 (px k)) := h1 0 (by omega)
      have p1 : w.cell? ⟨b1, o1 + k * 2 + 1, none⟩ = some (.int .i64 (py k)) := h1 1 (by omega)
      have q0 : w.cell? ⟨b2, o2 + k * 2, none⟩ = some (.int .i64 (px k)) := h2 0 (by omega)
      have q1 : w.cell? ⟨b2, o2 + k * 2 + 1, none⟩ = some (.int .i64 (py k)) := h2 1 (by omega)
      have i0 : (0 : Int) ≤ (k : Int) := by omega
      have i1 : (k : Int) < (n : Int) := by omega
      generalize px k = x at *
      generalize py k = y at *
      clear h1 h2
      go_wp2_with fail
      go_quiet (fail)
      go_wp2_with fail
      go_roundw
      case rel => exact ⟨k + 1, _, by omega, by go_num, rfl⟩
      case measure => simp [intOf]; omega
    · have hkn : n = k := by omega
      subst hkn
      go_wp2_with fail
      go_ret
      exact ⟨rfl, d, rfl⟩
end Go.Proofs.YtnmikhmbnpiadaaDoor.Shp
