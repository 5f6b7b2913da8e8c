/- The contract of slices.Equal on rows of api.Span that are alike. -/
import Derived.Test.YtdhhkcboejhoaaaDoorChars
namespace Go.Proofs.YtdhhkcboejhoaaaDoor.Bre
open Go.RowKit Go.Frm

def spF (F : Nat → Nat × Nat) (i j : Nat) : Value := if j = 0 then .int .i64 ((F i).1 : Int) else .int .i64 ((F i).2 : Int)
set_option maxRecDepth 100000 in
set_option maxHeartbeats 1000000 in
theorem spans_ok (A B : Option Addr) (n ca cb : Nat) (F : Nat → Nat × Nat) (w : World) (hA : RdF w A n 2 (spF F)) (hB : RdF w B n 2 (spF F)) (hn : n ≤ 100000) :
    Calls Tryd.prog 11 #[.slice A n ca, .slice B n cb] w fun e w' => e = .returned (.bool true) ∧ ∃ d, w' = w.drewN d := by
  go_enter Tryd.func11, Tryd.ntmps11
  go_wp2_with fail
  go_loopw [13] (fun a wr => ∃ (k d : Nat), k ≤ n ∧ a = .int .i64 k ∧ wr = w.drewN d) (fun a _ => n - (intOf a).toNat)
  case atStart => exact ⟨0, 0, by omega, rfl, rfl⟩
  case round =>
    obtain ⟨k, d, hk, rfl, rfl⟩ := hrel
    by_cases hlt : k < n
    · obtain ⟨b1, o1, rfl, h1⟩ := hA.at_ hlt
      obtain ⟨b2, o2, rfl, h2⟩ := hB.at_ hlt
      have p0 : w.cell? ⟨b1, o1 + k * 2, none⟩ = some (.int .i64 ((F k).1 : Int)) := h1 0 (by omega)
      have p1 : w.cell? ⟨b1, o1 + k * 2 + 1, none⟩ = some (.int .i64 ((F k).2 : Int)) := h1 1 (by omega)
      have q0 : w.cell? ⟨b2, o2 + k * 2, none⟩ = some (.int .i64 ((F k).1 : Int)) := h2 0 (by omega)
      have q1 : w.cell? ⟨b2, o2 + k * 2 + 1, none⟩ = some (.int .i64 ((F k).2 : Int)) := h2 1 (by omega)
      have i0 : (0 : Int) ≤ (k : Int) := by omega
      have i1 : (k : Int) < (n : Int) := by omega
      generalize ((F k).1 : Int) = x at *
      generalize ((F k).2 : Int) = y at *
      clear h1 h2
      go_wp2_with fail
      go_quiet (fail)
      go_wp2_with fail
      go_roundw
      case rel => exact ⟨k + 1, _, by omega, by go_num, rfl⟩
      case measure => simp [intOf]; omega
    · have hkn : n = k := by omega
      subst hkn
      go_wp2_with fail
      go_ret
      exact ⟨rfl, d, rfl⟩
end Go.Proofs.YtdhhkcboejhoaaaDoor.Bre
