/- The contract of chancerykeep3.within: a number brought into a range. -/
import Derived.Test.YtegmokdhfmgdgaaProg
import Derived.Test.YtegmokdhfmgdgaaSlices
namespace Go.Proofs.Ytegmokdhfmgdgaa.Wi
open Go.RowKit Go.Frm

def wi (x low high : Int) : Int := low + x % (high - low + 1)
theorem wi_bd (x : Int) {low high : Int} (h : low ≤ high) : low ≤ wi x low high ∧ wi x low high ≤ high := by
  have h1 := Int.emod_nonneg x (show high - low + 1 ≠ 0 by omega)
  have h2 := Int.emod_lt_of_pos x (show 0 < high - low + 1 by omega)
  unfold wi
  omega
theorem tmod_add_emod (x n : Int) : (x.tmod n) % n = x % n := by
  have h : x.tmod n = x - n * x.tdiv n := by have := Int.mul_tdiv_add_tmod x n; omega
  rw [h, Int.sub_emod, Int.mul_emod_right]
  simp

set_option maxHeartbeats 400000 in
theorem within_any (x low high : Int) (w : World) (hx : (Lit.int .i64 x).wf = true) (h : low ≤ high) (h1 : -1000000000000 ≤ low) (h2 : high ≤ 1000000000000) :
    Calls Try.prog 9 #[.int .i64 x, .int .i64 low, .int .i64 high] w fun e w' => e = .returned (.int .i64 (wi x low high)) ∧ w = w' := by
  have hb := bounds_i64 hx
  have hn : ((high - low + 1 : Int) == 0) = false := by simp; omega
  have t1 : -(high - low + 1) < x.tmod (high - low + 1) := by
    have := Int.lt_tmod_of_pos x (show 0 < high - low + 1 by omega)
    omega
  have t2 : x.tmod (high - low + 1) < high - low + 1 := Int.tmod_lt_of_pos x (by omega)
  have hw := wi_bd x h
  have he : low + x.tmod (high - low + 1) % (high - low + 1) = wi x low high := by rw [tmod_add_emod]; rfl
  have h3 := Int.emod_nonneg (x.tmod (high - low + 1)) (show high - low + 1 ≠ 0 by omega)
  have h4 := Int.emod_lt_of_pos (x.tmod (high - low + 1)) (show 0 < high - low + 1 by omega)
  have He := hide he
  clear he hw
  go_enter Try.func9, Try.ntmps9
  go_wp2
  go_ret
  exact ⟨ret_int He.out, rfl⟩
end Go.Proofs.Ytegmokdhfmgdgaa.Wi
