/- The contract of slices.Equal on []int. -/
import Derived.Test.YtdikfldogmbeaaaDoorProg
import Derived.Test.YtdikfldogmbeaaaDoorSlices
namespace Go.Proofs.YtdikfldogmbeaaaDoor.Scl
open Go.RowKit Go.Frm

set_option maxHeartbeats 1000000 in
theorem equal_any (A B : Option Addr) (c d : Nat) (zs ys : List Int) (w : World) (hA : RdI w A zs) (hB : RdI w B ys) (h1 : zs.length ≤ 9223372036854775807) (_h2 : ys.length ≤ 9223372036854775807) :
    Calls Tryd.prog 7 #[.slice A zs.length c, .slice B ys.length d] w fun e w' => e = .returned (.bool (decide (zs = ys))) ∧ ∃ n, w' = w.drewN n := by
  by_cases hl : zs.length = ys.length
  · have hd : decide (zs = ys) = true ∨ ¬ zs = ys := by by_cases h : zs = ys <;> simp [h]
    go_enter Tryd.func7, Tryd.ntmps7
    clear hd
    go_wp2
    go_loopw [13] (fun i wr => ∃ (k m : Nat), k ≤ zs.length ∧ i = .int .i64 k ∧ EqTo zs ys k ∧ wr = w.drewN m) (fun i _ => zs.length - (intOf i).toNat)
    case atStart => exact ⟨0, 0, by omega, rfl, eqTo_zero _ _, rfl⟩
    case round =>
      obtain ⟨k, m, hk, rfl, heq, rfl⟩ := hrel
      by_cases hlt : k < zs.length
      · obtain ⟨b, off, rfl, hc⟩ := hA.at_ hlt
        obtain ⟨b2, off2, rfl, hc2⟩ := hB.at_ (show k < ys.length by omega)
        by_cases he : ix zs k = ix ys k
        · rw [← he] at hc2
          have He := hide he
          clear he
          go_wp2
          go_quiet (fail)
          go_wp2
          go_roundw
          case rel => exact ⟨k + 1, _, by omega, by go_num, eqTo_succ heq He.out, rfl⟩
          case measure => simp [intOf]; omega
        · have hq : (ix zs k == ix ys k) = false := by simpa using he
          go_wp2
          go_quiet (fail)
          go_wp2
          go_ret
          exact ⟨ret_bool (by simp; intro h; exact he (by rw [h])), _, by rw [World.drewN_drewN]⟩
      · go_wp2
        go_ret
        exact ⟨ret_bool (by simp; exact eqTo_all hl heq (by omega)), m, rfl⟩
  · have hne : decide (zs = ys) = false := by simp; intro h; rw [h] at hl; omega
    have hq : ((zs.length : Int) == (ys.length : Int)) = false := by simp; omega
    go_enter Tryd.func7, Tryd.ntmps7
    go_wp2
    go_ret
    exact ⟨ret_bool hne.symm, 0, rfl⟩
end Go.Proofs.YtdikfldogmbeaaaDoor.Scl
