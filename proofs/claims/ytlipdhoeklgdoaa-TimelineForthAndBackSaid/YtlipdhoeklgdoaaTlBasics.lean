/- Contracts of package timeline: Check, times, progress, part. -/
import Derived.Test.YtlipdhoeklgdoaaTlPlain
import Derived.Test.YtlipdhoeklgdoaaProg
namespace Go.Proofs.Ytlipdhoeklgdoaa.Tl
open Go.RowKit Go.Frm

set_option maxHeartbeats 1000000 in
theorem part_ok (n p : Int) (w : World) (h1 : -500 ≤ n) (h2 : n ≤ 500) (h3 : 0 ≤ p) (h4 : p ≤ 1000) :
    Calls Try.prog 29 #[.int .i64 n, .int .i64 p] w fun e w' => e = .returned (.int .i64 (pt n p)) ∧ w = w' := by
  obtain ⟨a1, a2, a3, a4⟩ := pt_bd h1 h2 h3 h4
  have He := hide (show (n * p).tdiv 1000 = pt n p from rfl)
  have e1 : -500 ≤ (n * p).tdiv 1000 := by rw [He.out]; exact a1
  have e2 : (n * p).tdiv 1000 ≤ 500 := by rw [He.out]; exact a2
  clear a1 a2
  go_enter Try.func29, Try.ntmps29
  go_wp2
  go_ret
  exact ⟨ret_int He.out, rfl⟩

set_option maxHeartbeats 1000000 in
theorem progress_ok (c f t click at_ : Int) (w : World) (h0 : 0 ≤ f) (h1 : f ≤ t) (h2 : t ≤ 13000) (hl0 : 0 ≤ click) (hl1 : click ≤ 200) (ha0 : 0 ≤ at_) (ha1 : at_ ≤ 10000000) :
    Calls Try.prog 28 #[.agg #[.int .i64 c, .int .i64 f, .int .i64 t], .int .i64 click, .int .i64 at_] w fun e w' => e = .returned (.int .i64 (pg c f t click at_)) ∧ Below w.heap.size w w' := by
  by_cases q1 : c < click ∨ (c = click ∧ t ≤ at_)
  · have hp : pg c f t click at_ = 1000 := by unfold pg; rw [if_pos q1]
    have Hp := hide hp
    clear hp
    rcases q1 with q1 | ⟨rfl, q1⟩
    · go_enter Try.func28, Try.ntmps28
      go_wp2
      go_ret
      exact ⟨ret_int Hp.out.symm, (Below.refl _ _).alloc (Nat.le_refl _) _⟩
    · have d1 : decide (at_ ≥ t) = true := by simp; omega
      go_enter Try.func28, Try.ntmps28
      go_wp2
      go_ret
      exact ⟨ret_int Hp.out.symm, (Below.refl _ _).alloc (Nat.le_refl _) _⟩
  · have d0 : decide (c < click) = false := by simp; omega
    have hp1 : pg c f t click at_ = if click < c ∨ at_ ≤ f then 0 else 1000 * (at_ - f) / (t - f) := by unfold pg; rw [if_neg q1]
    by_cases q2 : click < c
    · have Hp := hide (hp1.trans (if_pos (.inl q2)))
      have d1 : (c == click) = false := by simp; omega
      have d2 : decide (c > click) = true := by simp; omega
      clear hp1 q1
      go_enter Try.func28, Try.ntmps28
      go_wp2
      go_ret
      exact ⟨ret_int Hp.out.symm, (Below.refl _ _).alloc (Nat.le_refl _) _⟩
    · obtain rfl : c = click := by omega
      have d1 : decide (at_ ≥ t) = false := by simp; omega
      by_cases q3 : at_ ≤ f
      · have Hp := hide (hp1.trans (if_pos (.inr q3)))
        clear hp1 q1
        go_enter Try.func28, Try.ntmps28
        go_wp2
        go_ret
        exact ⟨ret_int Hp.out.symm, (Below.refl _ _).alloc (Nat.le_refl _) _⟩
      · have hlt : at_ < t := by omega
        have hp2 : pg c f t c at_ = (1000 * (at_ - f)).tdiv (t - f) := by
          rw [hp1, if_neg (by omega), Int.tdiv_eq_ediv_of_nonneg (by omega)]
        have hb := @pg_bd c f t c at_
        rw [hp2] at hb
        obtain ⟨b1, b2⟩ := hb
        have Hp := hide hp2
        have d3 : decide (at_ ≤ f) = false := by simp; omega
        have d4 : (t - f == 0) = false := by simp; omega
        clear hp1 hp2 q1
        go_enter Try.func28, Try.ntmps28
        go_wp2
        go_ret
        exact ⟨ret_int Hp.out.symm, (Below.refl _ _).alloc (Nat.le_refl _) _⟩

/-- the seven cells of an effect -/
theorem cells7 {w : World} {A : Option Addr} {n : Nat} {F : Nat → Nat → Int} (h : RdF w A n 7 (efV F)) {k : Nat} (hk : k < n) : ∃ b off, A = some ⟨b, off, none⟩ ∧
    w.cell? ⟨b, off + k * 7, none⟩ = some (.int .i64 (F k 0)) ∧ w.cell? ⟨b, off + k * 7 + 1, none⟩ = some (.int .i64 (F k 1)) ∧ w.cell? ⟨b, off + k * 7 + 2, none⟩ = some (.int .i64 (F k 2)) ∧
    w.cell? ⟨b, off + k * 7 + 3, none⟩ = some (.int .i64 (F k 3)) ∧ w.cell? ⟨b, off + k * 7 + 4, none⟩ = some (.int .i64 (F k 4)) ∧ w.cell? ⟨b, off + k * 7 + 5, none⟩ = some (.int .i64 (F k 5)) ∧
    w.cell? ⟨b, off + k * 7 + 6, none⟩ = some (.int .i64 (F k 6)) := by
  obtain ⟨b, off, rfl, hc⟩ := h.at_ hk
  exact ⟨b, off, rfl, hc 0 (by omega), hc 1 (by omega), hc 2 (by omega), hc 3 (by omega), hc 4 (by omega), hc 5 (by omega), hc 6 (by omega)⟩
def efC (F : Nat → Nat → Int) (k : Nat) : Array Value := #[.int .i64 (F k 0), .int .i64 (F k 1), .int .i64 (F k 2), .int .i64 (F k 3), .int .i64 (F k 4), .int .i64 (F k 5), .int .i64 (F k 6)]

set_option maxRecDepth 100000 in
set_option maxHeartbeats 2000000 in
theorem check_ok (A : Option Addr) (n c : Nat) (F : Nat → Nat → Int) (w : World) (hv : VF F n) (hr : RdF w A n 7 (efV F)) :
    Calls Try.prog 25 #[.slice A n c] w fun e w' => e = .returned (.int .i64 0) ∧ Below w.heap.size w w' := by
  have hn := hv.few
  have Hv := hide hv
  clear hv
  have hn3 : decide ((n : Int) > 200) = false := by simp; omega
  go_enter Try.func25, Try.ntmps25
  go_wp2_with fail
  go_loopw [10] (fun a wr => ∃ (i : Nat), i ≤ n ∧ a = .int .i64 i ∧ Below w.heap.size w wr) (fun a _ => n - (intOf a).toNat)
  case atStart => exact ⟨0, by omega, rfl, Below.refl _ _⟩
  case round =>
    obtain ⟨i, hin, rfl, hbl⟩ := hrel
    by_cases hlt : i < n
    · obtain ⟨b, off, rfl, k0, k1, k2, k3, k4, k5, k6⟩ := cells7 (hr.below hbl) hlt
      obtain ⟨a0, a1⟩ := Hv.out.item i hlt
      obtain ⟨b0, b1⟩ := Hv.out.kind i hlt
      obtain ⟨c0, c1⟩ := Hv.out.start i hlt
      obtain ⟨d0, d1⟩ := Hv.out.delay i hlt
      obtain ⟨e0, e1⟩ := Hv.out.takes i hlt
      obtain ⟨f0, f1⟩ := Hv.out.xs i hlt
      obtain ⟨g0, g1⟩ := Hv.out.ys i hlt
      have hsz := hbl.size
      by_cases h2 : F i 1 = 2
      · rw [h2] at k1
        clear h2 b0 b1
        go_wp2_with fail
        go_roundw
        case rel => exact ⟨i + 1, by omega, by go_num, hbl.alloc hsz _⟩
        case measure => simp [intOf]; omega
      · obtain ⟨z5, z6⟩ := Hv.out.form i hlt h2
        have q2 : (F i 1 != 2) = true := by simpa using h2
        rw [z5] at k5
        rw [z6] at k6
        clear h2 z5 z6 f0 f1 g0 g1
        go_wp2_with fail
        go_roundw
        case rel => exact ⟨i + 1, by omega, by go_num, hbl.alloc hsz _⟩
        case measure => simp [intOf]; omega
    · go_wp2_with fail
      go_ret
      exact ⟨rfl, hbl⟩
end Go.Proofs.Ytlipdhoeklgdoaa.Tl
