/- The contract of the closure of RouteBackwards that turns a direction round. -/
import Derived.Test.YtegmokdhfmgdgaaRtTrail
import Derived.Test.YtegmokdhfmgdgaaRtMem
namespace Go.Proofs.Ytegmokdhfmgdgaa.Rt
open Go.RowKit Go.Frm Go.Frm.Rt

theorem turn_ok (z : Int) (hz : -1 ≤ z ∧ z ≤ 3) (w : World) : Calls Try.prog 12 #[.int .i64 z] w fun e w' => e = .returned (.int .i64 (opZ z)) ∧ w' = w := by
  by_cases h : z < 0
  · have h1 : decide (z < 0) = true := decide_eq_true h
    have HV : Hid (opZ z = z) := hide (by unfold opZ; rw [if_pos h])
    go_enter Try.func12, Try.ntmps12
    go_wp2_with fail
    go_ret
    exact ⟨ret_int HV.out.symm, rfl⟩
  · have h1 : decide (z < 0) = false := decide_eq_false h
    have e1 : Int.tmod (z + 2) 4 = (z + 2) % 4 := Int.tmod_eq_emod_of_nonneg (by omega)
    have e2 : IntKind.i64.wrap ((z + 2) % 4) = (z + 2) % 4 := IntWalk.i64_in _ (by omega)
    have HV : Hid (opZ z = (z + 2) % 4) := hide (by unfold opZ; rw [if_neg h])
    go_enter Try.func12, Try.ntmps12
    go_wp2_with fail
    go_ret
    exact ⟨ret_int (by rw [HV.out]), rfl⟩
end Go.Proofs.Ytegmokdhfmgdgaa.Rt
