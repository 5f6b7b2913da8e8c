/- slices.Equal at points, where they are equal. -/
import Derived.Test.YtegmokdhfmgdgaaRtReverse
namespace Go.Proofs.Ytegmokdhfmgdgaa.Rt
open Go.RowKit Go.Frm Go.Frm.Rt

set_option maxRecDepth 100000 in
set_option maxHeartbeats 4000000 in
theorem equal_ok {w : World} {A A2 : Option Addr} {n c c2 : Nat} {P : Nat → Pt} (hr : RdF w A n 2 (ptF P)) (hr2 : RdF w A2 n 2 (ptF P)) (hn : n ≤ 1000000) :
    Calls Try.prog 14 #[.slice A n c, .slice A2 n c2] w fun e w' => e = .returned (.bool true) ∧ ∃ m, w' = w.drewN m := by
  have HR := hide hr
  have HR2 := hide hr2
  clear hr hr2
  go_enter Try.func14, Try.ntmps14
  go_wp2_with fail
  go_loopw [13, 5] (fun a _ wr => ∃ (k q : Nat), a = .int .i64 k ∧ k ≤ n ∧ wr = w.drewN q) (fun a _ _ => n - (intOf a).toNat)
  case atStart => exact ⟨0, 0, rfl, Nat.zero_le _, rfl⟩
  case round =>
    obtain ⟨k, q, rfl, hk, rfl⟩ := hrel
    by_cases hlt : k < n
    · obtain ⟨b, off, rfl, ca⟩ := (HR.out.drewN q).at_ hlt
      obtain ⟨b2, off2, rfl, cb⟩ := (HR2.out.drewN q).at_ hlt
      have a0 := ca 0 (by omega)
      have a1 := ca 1 (by omega)
      have b0 := cb 0 (by omega)
      have b1 := cb 1 (by omega)
      change (w.drewN q).cell? ⟨b, off + k * 2 + 0, none⟩ = some (.int .i64 (P k).1) at a0
      change (w.drewN q).cell? ⟨b, off + k * 2 + 1, none⟩ = some (.int .i64 (P k).2) at a1
      change (w.drewN q).cell? ⟨b2, off2 + k * 2 + 0, none⟩ = some (.int .i64 (P k).1) at b0
      change (w.drewN q).cell? ⟨b2, off2 + k * 2 + 1, none⟩ = some (.int .i64 (P k).2) at b1
      rw [Nat.add_zero] at a0 b0
      generalize (P k).1 = x at *
      generalize (P k).2 = y at *
      have k1 : decide ((k : Int) < (n : Int)) = true := decide_eq_true (by omega)
      have k2 : (k : Int) < (n : Int) := by omega
      have k3 : (0 : Int) ≤ (k : Int) := by omega
      have k4 : (k : Int) ≤ 1000000 := by omega
      clear ca cb hlt
      obtain ⟨w5, He⟩ : ∃ wx : World, Hid (wx = w.drewN q) := ⟨_, rfl⟩
      rw [← He.out] at a0 a1 b0 b1
      rw [← He.out]
      go_upto_region 6 with fail
      go_quiet (fail)
      go_wp2_with fail
      go_roundw
      case rel => exact ⟨k + 1, _, by go_num, by omega, by rw [He.out]; exact World.drewN_drewN w q _⟩
      case measure => (simp [intOf]; omega)
    · obtain rfl : k = n := by omega
      have k1 : decide ((k : Int) < (k : Int)) = false := decide_eq_false (by omega)
      go_wp2_with fail
      go_ret
      exact ⟨rfl, q, rfl⟩
end Go.Proofs.Ytegmokdhfmgdgaa.Rt
