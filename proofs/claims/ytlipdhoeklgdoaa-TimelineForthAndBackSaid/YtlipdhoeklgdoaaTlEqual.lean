/- The contract of slices.Equal on rows of api.ItemState that are alike. -/
import Derived.Test.YtlipdhoeklgdoaaTlFind
namespace Go.Proofs.Ytlipdhoeklgdoaa.Tl
open Go.RowKit Go.Frm

set_option maxRecDepth 100000 in
set_option maxHeartbeats 2000000 in
theorem alike_states (A B : Option Addr) (n ca cb : Nat) (G : Nat → Nat → Int) (w : World) (hA : RdF w A n 4 (fun i j => .int .i64 (G i j))) (hB : RdF w B n 4 (fun i j => .int .i64 (G i j))) (hn : n ≤ 100000) :
    Calls Try.prog 16 #[.slice A n ca, .slice B n cb] w fun e w' => e = .returned (.bool true) ∧ ∃ d, w' = w.drewN d := by
  go_enter Try.func16, Try.ntmps16
  go_wp2_with fail
  go_loopw [13] (fun a wr => ∃ (k d : Nat), k ≤ n ∧ a = .int .i64 k ∧ wr = w.drewN d) (fun a _ => n - (intOf a).toNat)
  case atStart => exact ⟨0, 0, by omega, rfl, rfl⟩
  case round =>
    obtain ⟨k, d, hk, rfl, rfl⟩ := hrel
    by_cases hlt : k < n
    · obtain ⟨b1, o1, rfl, p0, p1, p2, p3⟩ := cells4 hA hlt
      obtain ⟨b2, o2, rfl, q0, q1, q2, q3⟩ := cells4 hB hlt
      have i0 : (0 : Int) ≤ (k : Int) := by omega
      have i1 : (k : Int) < (n : Int) := by omega
      generalize G k 0 = x at *
      generalize G k 1 = y at *
      generalize G k 2 = z at *
      generalize G k 3 = u at *
      go_wp2_with fail
      go_quiet (fail)
      go_wp2_with fail
      go_roundw
      case rel => exact ⟨k + 1, _, by omega, by go_num, rfl⟩
      case measure => simp [intOf]; omega
    · have hkn : n = k := by omega
      subst hkn
      go_wp2_with fail
      go_ret
      exact ⟨rfl, d, rfl⟩
end Go.Proofs.Ytlipdhoeklgdoaa.Tl
