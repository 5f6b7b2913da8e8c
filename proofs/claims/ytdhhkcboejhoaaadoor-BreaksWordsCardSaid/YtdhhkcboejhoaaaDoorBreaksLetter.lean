/- Contracts of breaks.letter and breaks.inside. (Printed by wip/bin/lettergen.py.) -/
import Derived.Test.YtdhhkcboejhoaaaDoorBreaksWordsPlain
import Derived.Test.YtdhhkcboejhoaaaDoorBreaksClass
namespace Go.Proofs.YtdhhkcboejhoaaaDoor.Bre
open Go.RowKit Go.Frm Mtr

set_option maxRecDepth 100000 in
set_option maxHeartbeats 4000000 in
theorem letter_ok (c : Int) (w : World) (ht : TabM w) : Calls Tryd.prog 26 #[.int .i64 c] w fun e w' => e = .returned (.bool (ltrB c)) ∧ Below w.heap.size w w' := by
  have Hc := hide (class_ok c w ht)
  have HL : Hid (ltrB c = (cls c == 11 || cls c == 10 || cls c == 6 || (decide (65 ≤ c) && decide (c ≤ 90)) || (decide (97 ≤ c) && decide (c ≤ 122)) || c == 95 ||
    (cls c == 0 && decide (192 ≤ c) && c != 215 && c != 247 && (decide (c < 8192) || decide (11264 ≤ c))))) := rfl
  clear ht
  have HLC : True := trivial
  generalize ltrB c = L at *
  generalize cls c = k at *
  go_enter Tryd.func26, Tryd.ntmps26
  go_wp2_with fail
  refine Hc.out.mono ?_
  rintro e w1 ⟨rfl, hb1⟩
  clear Hc
  by_cases h11 : k = 11
  · have fk11 : (k == 11) = true := by simp; omega
    have hv : L = true := by rw [HL.out]; simp [fk11]
    have Hv := hide hv
    clear hv HLC
    go_wp2_with fail
    go_ret
    exact ⟨ret_bool Hv.out.symm, hb1⟩
  by_cases h10 : k = 10
  · have fk11 : (k == 11) = false := by simp; omega
    have fk10 : (k == 10) = true := by simp; omega
    have hv : L = true := by rw [HL.out]; simp [fk11, fk10]
    have Hv := hide hv
    clear hv HLC
    go_wp2_with fail
    go_ret
    exact ⟨ret_bool Hv.out.symm, hb1⟩
  by_cases h6 : k = 6
  · have fk11 : (k == 11) = false := by simp; omega
    have fk10 : (k == 10) = false := by simp; omega
    have fk6 : (k == 6) = true := by simp; omega
    have hv : L = true := by rw [HL.out]; simp [fk11, fk10, fk6]
    have Hv := hide hv
    clear hv HLC
    go_wp2_with fail
    go_ret
    exact ⟨ret_bool Hv.out.symm, hb1⟩
  rcases (show (c < 65) ∨ (65 ≤ c ∧ c ≤ 90) ∨ (90 < c ∧ c < 97 ∧ c ≠ 95) ∨ (c = 95) ∨ (97 ≤ c ∧ c ≤ 122) ∨ (122 < c ∧ c < 192) ∨ (c = 215) ∨ (c = 247) ∨ (192 ≤ c ∧ c < 8192 ∧ c ≠ 215 ∧ c ≠ 247) ∨ (8192 ≤ c ∧ c < 11264) ∨ (11264 ≤ c) by omega) with h | h | h | h | h | h | h | h | h | h | h
  · by_cases h0 : k = 0
    · have fk11 : (k == 11) = false := by simp; omega
      have fk10 : (k == 10) = false := by simp; omega
      have fk6 : (k == 6) = false := by simp; omega
      have fc65 : decide (c ≥ 65) = false := by simp; omega
      have fc90 : decide (c ≤ 90) = true := by simp; omega
      have fc97 : decide (c ≥ 97) = false := by simp; omega
      have fc122 : decide (c ≤ 122) = true := by simp; omega
      have fc95 : (c == 95) = false := by simp; omega
      have fk0 : (k == 0) = true := by simp; omega
      have fc192 : decide (c ≥ 192) = false := by simp; omega
      have fn215 : (c != 215) = true := by simp; omega
      have fn247 : (c != 247) = true := by simp; omega
      have fl8192 : decide (c < 8192) = true := by simp; omega
      have fg11264 : decide (c ≥ 11264) = false := by simp; omega
      have hv : L = false := by rw [HL.out, show decide (65 ≤ c) = false from fc65, show decide (97 ≤ c) = false from fc97, show decide (192 ≤ c) = false from fc192, show decide (11264 ≤ c) = false from fg11264]; simp [fk11, fk10, fk6, fc65, fc90, fc97, fc122, fc95, fk0, fc192, fn215, fn247, fl8192, fg11264]
      have Hv := hide hv
      clear hv HLC
      go_wp2_with fail
      go_ret
      exact ⟨ret_bool Hv.out.symm, hb1⟩
    · have fk11 : (k == 11) = false := by simp; omega
      have fk10 : (k == 10) = false := by simp; omega
      have fk6 : (k == 6) = false := by simp; omega
      have fc65 : decide (c ≥ 65) = false := by simp; omega
      have fc90 : decide (c ≤ 90) = true := by simp; omega
      have fc97 : decide (c ≥ 97) = false := by simp; omega
      have fc122 : decide (c ≤ 122) = true := by simp; omega
      have fc95 : (c == 95) = false := by simp; omega
      have fk0 : (k == 0) = false := by simp; omega
      have hv : L = false := by rw [HL.out, show decide (65 ≤ c) = false from fc65, show decide (97 ≤ c) = false from fc97]; simp [fk11, fk10, fk6, fc65, fc90, fc97, fc122, fc95, fk0]
      have Hv := hide hv
      clear hv HLC
      go_wp2_with fail
      go_ret
      exact ⟨ret_bool Hv.out.symm, hb1⟩
  · have fk11 : (k == 11) = false := by simp; omega
    have fk10 : (k == 10) = false := by simp; omega
    have fk6 : (k == 6) = false := by simp; omega
    have fc65 : decide (c ≥ 65) = true := by simp; omega
    have fc90 : decide (c ≤ 90) = true := by simp; omega
    have fc97 : decide (c ≥ 97) = false := by simp; omega
    have fc122 : decide (c ≤ 122) = true := by simp; omega
    have fc95 : (c == 95) = false := by simp; omega
    have hv : L = true := by rw [HL.out, show decide (65 ≤ c) = true from fc65, show decide (97 ≤ c) = false from fc97]; simp [fk11, fk10, fk6, fc65, fc90, fc97, fc122, fc95]
    have Hv := hide hv
    clear hv HLC
    go_wp2_with fail
    go_ret
    exact ⟨ret_bool Hv.out.symm, hb1⟩
  · by_cases h0 : k = 0
    · have fk11 : (k == 11) = false := by simp; omega
      have fk10 : (k == 10) = false := by simp; omega
      have fk6 : (k == 6) = false := by simp; omega
      have fc65 : decide (c ≥ 65) = true := by simp; omega
      have fc90 : decide (c ≤ 90) = false := by simp; omega
      have fc97 : decide (c ≥ 97) = false := by simp; omega
      have fc122 : decide (c ≤ 122) = true := by simp; omega
      have fc95 : (c == 95) = false := by simp; omega
      have fk0 : (k == 0) = true := by simp; omega
      have fc192 : decide (c ≥ 192) = false := by simp; omega
      have fn215 : (c != 215) = true := by simp; omega
      have fn247 : (c != 247) = true := by simp; omega
      have fl8192 : decide (c < 8192) = true := by simp; omega
      have fg11264 : decide (c ≥ 11264) = false := by simp; omega
      have hv : L = false := by rw [HL.out, show decide (65 ≤ c) = true from fc65, show decide (97 ≤ c) = false from fc97, show decide (192 ≤ c) = false from fc192, show decide (11264 ≤ c) = false from fg11264]; simp [fk11, fk10, fk6, fc65, fc90, fc97, fc122, fc95, fk0, fc192, fn215, fn247, fl8192, fg11264]
      have Hv := hide hv
      clear hv HLC
      go_wp2_with fail
      go_ret
      exact ⟨ret_bool Hv.out.symm, hb1⟩
    · have fk11 : (k == 11) = false := by simp; omega
      have fk10 : (k == 10) = false := by simp; omega
      have fk6 : (k == 6) = false := by simp; omega
      have fc65 : decide (c ≥ 65) = true := by simp; omega
      have fc90 : decide (c ≤ 90) = false := by simp; omega
      have fc97 : decide (c ≥ 97) = false := by simp; omega
      have fc122 : decide (c ≤ 122) = true := by simp; omega
      have fc95 : (c == 95) = false := by simp; omega
      have fk0 : (k == 0) = false := by simp; omega
      have hv : L = false := by rw [HL.out, show decide (65 ≤ c) = true from fc65, show decide (97 ≤ c) = false from fc97]; simp [fk11, fk10, fk6, fc65, fc90, fc97, fc122, fc95, fk0]
      have Hv := hide hv
      clear hv HLC
      go_wp2_with fail
      go_ret
      exact ⟨ret_bool Hv.out.symm, hb1⟩
  · have fk11 : (k == 11) = false := by simp; omega
    have fk10 : (k == 10) = false := by simp; omega
    have fk6 : (k == 6) = false := by simp; omega
    have fc65 : decide (c ≥ 65) = true := by simp; omega
    have fc90 : decide (c ≤ 90) = false := by simp; omega
    have fc97 : decide (c ≥ 97) = false := by simp; omega
    have fc122 : decide (c ≤ 122) = true := by simp; omega
    have fc95 : (c == 95) = true := by simp; omega
    have hv : L = true := by rw [HL.out, show decide (65 ≤ c) = true from fc65, show decide (97 ≤ c) = false from fc97]; simp [fk11, fk10, fk6, fc65, fc90, fc97, fc122, fc95]
    have Hv := hide hv
    clear hv HLC
    go_wp2_with fail
    go_ret
    exact ⟨ret_bool Hv.out.symm, hb1⟩
  · have fk11 : (k == 11) = false := by simp; omega
    have fk10 : (k == 10) = false := by simp; omega
    have fk6 : (k == 6) = false := by simp; omega
    have fc65 : decide (c ≥ 65) = true := by simp; omega
    have fc90 : decide (c ≤ 90) = false := by simp; omega
    have fc97 : decide (c ≥ 97) = true := by simp; omega
    have fc122 : decide (c ≤ 122) = true := by simp; omega
    have fc95 : (c == 95) = false := by simp; omega
    have hv : L = true := by rw [HL.out, show decide (65 ≤ c) = true from fc65, show decide (97 ≤ c) = true from fc97]; simp [fk11, fk10, fk6, fc65, fc90, fc97, fc122, fc95]
    have Hv := hide hv
    clear hv HLC
    go_wp2_with fail
    go_ret
    exact ⟨ret_bool Hv.out.symm, hb1⟩
  · by_cases h0 : k = 0
    · have fk11 : (k == 11) = false := by simp; omega
      have fk10 : (k == 10) = false := by simp; omega
      have fk6 : (k == 6) = false := by simp; omega
      have fc65 : decide (c ≥ 65) = true := by simp; omega
      have fc90 : decide (c ≤ 90) = false := by simp; omega
      have fc97 : decide (c ≥ 97) = true := by simp; omega
      have fc122 : decide (c ≤ 122) = false := by simp; omega
      have fc95 : (c == 95) = false := by simp; omega
      have fk0 : (k == 0) = true := by simp; omega
      have fc192 : decide (c ≥ 192) = false := by simp; omega
      have fn215 : (c != 215) = true := by simp; omega
      have fn247 : (c != 247) = true := by simp; omega
      have fl8192 : decide (c < 8192) = true := by simp; omega
      have fg11264 : decide (c ≥ 11264) = false := by simp; omega
      have hv : L = false := by rw [HL.out, show decide (65 ≤ c) = true from fc65, show decide (97 ≤ c) = true from fc97, show decide (192 ≤ c) = false from fc192, show decide (11264 ≤ c) = false from fg11264]; simp [fk11, fk10, fk6, fc65, fc90, fc97, fc122, fc95, fk0, fc192, fn215, fn247, fl8192, fg11264]
      have Hv := hide hv
      clear hv HLC
      go_wp2_with fail
      go_ret
      exact ⟨ret_bool Hv.out.symm, hb1⟩
    · have fk11 : (k == 11) = false := by simp; omega
      have fk10 : (k == 10) = false := by simp; omega
      have fk6 : (k == 6) = false := by simp; omega
      have fc65 : decide (c ≥ 65) = true := by simp; omega
      have fc90 : decide (c ≤ 90) = false := by simp; omega
      have fc97 : decide (c ≥ 97) = true := by simp; omega
      have fc122 : decide (c ≤ 122) = false := by simp; omega
      have fc95 : (c == 95) = false := by simp; omega
      have fk0 : (k == 0) = false := by simp; omega
      have hv : L = false := by rw [HL.out, show decide (65 ≤ c) = true from fc65, show decide (97 ≤ c) = true from fc97]; simp [fk11, fk10, fk6, fc65, fc90, fc97, fc122, fc95, fk0]
      have Hv := hide hv
      clear hv HLC
      go_wp2_with fail
      go_ret
      exact ⟨ret_bool Hv.out.symm, hb1⟩
  · by_cases h0 : k = 0
    · have fk11 : (k == 11) = false := by simp; omega
      have fk10 : (k == 10) = false := by simp; omega
      have fk6 : (k == 6) = false := by simp; omega
      have fc65 : decide (c ≥ 65) = true := by simp; omega
      have fc90 : decide (c ≤ 90) = false := by simp; omega
      have fc97 : decide (c ≥ 97) = true := by simp; omega
      have fc122 : decide (c ≤ 122) = false := by simp; omega
      have fc95 : (c == 95) = false := by simp; omega
      have fk0 : (k == 0) = true := by simp; omega
      have fc192 : decide (c ≥ 192) = true := by simp; omega
      have fn215 : (c != 215) = false := by simp; omega
      have fn247 : (c != 247) = true := by simp; omega
      have fl8192 : decide (c < 8192) = true := by simp; omega
      have fg11264 : decide (c ≥ 11264) = false := by simp; omega
      have hv : L = false := by rw [HL.out, show decide (65 ≤ c) = true from fc65, show decide (97 ≤ c) = true from fc97, show decide (192 ≤ c) = true from fc192, show decide (11264 ≤ c) = false from fg11264]; simp [fk11, fk10, fk6, fc65, fc90, fc97, fc122, fc95, fk0, fc192, fn215, fn247, fl8192, fg11264]
      have Hv := hide hv
      clear hv HLC
      go_wp2_with fail
      go_ret
      exact ⟨ret_bool Hv.out.symm, hb1⟩
    · have fk11 : (k == 11) = false := by simp; omega
      have fk10 : (k == 10) = false := by simp; omega
      have fk6 : (k == 6) = false := by simp; omega
      have fc65 : decide (c ≥ 65) = true := by simp; omega
      have fc90 : decide (c ≤ 90) = false := by simp; omega
      have fc97 : decide (c ≥ 97) = true := by simp; omega
      have fc122 : decide (c ≤ 122) = false := by simp; omega
      have fc95 : (c == 95) = false := by simp; omega
      have fk0 : (k == 0) = false := by simp; omega
      have hv : L = false := by rw [HL.out, show decide (65 ≤ c) = true from fc65, show decide (97 ≤ c) = true from fc97]; simp [fk11, fk10, fk6, fc65, fc90, fc97, fc122, fc95, fk0]
      have Hv := hide hv
      clear hv HLC
      go_wp2_with fail
      go_ret
      exact ⟨ret_bool Hv.out.symm, hb1⟩
  · by_cases h0 : k = 0
    · have fk11 : (k == 11) = false := by simp; omega
      have fk10 : (k == 10) = false := by simp; omega
      have fk6 : (k == 6) = false := by simp; omega
      have fc65 : decide (c ≥ 65) = true := by simp; omega
      have fc90 : decide (c ≤ 90) = false := by simp; omega
      have fc97 : decide (c ≥ 97) = true := by simp; omega
      have fc122 : decide (c ≤ 122) = false := by simp; omega
      have fc95 : (c == 95) = false := by simp; omega
      have fk0 : (k == 0) = true := by simp; omega
      have fc192 : decide (c ≥ 192) = true := by simp; omega
      have fn215 : (c != 215) = true := by simp; omega
      have fn247 : (c != 247) = false := by simp; omega
      have fl8192 : decide (c < 8192) = true := by simp; omega
      have fg11264 : decide (c ≥ 11264) = false := by simp; omega
      have hv : L = false := by rw [HL.out, show decide (65 ≤ c) = true from fc65, show decide (97 ≤ c) = true from fc97, show decide (192 ≤ c) = true from fc192, show decide (11264 ≤ c) = false from fg11264]; simp [fk11, fk10, fk6, fc65, fc90, fc97, fc122, fc95, fk0, fc192, fn215, fn247, fl8192, fg11264]
      have Hv := hide hv
      clear hv HLC
      go_wp2_with fail
      go_ret
      exact ⟨ret_bool Hv.out.symm, hb1⟩
    · have fk11 : (k == 11) = false := by simp; omega
      have fk10 : (k == 10) = false := by simp; omega
      have fk6 : (k == 6) = false := by simp; omega
      have fc65 : decide (c ≥ 65) = true := by simp; omega
      have fc90 : decide (c ≤ 90) = false := by simp; omega
      have fc97 : decide (c ≥ 97) = true := by simp; omega
      have fc122 : decide (c ≤ 122) = false := by simp; omega
      have fc95 : (c == 95) = false := by simp; omega
      have fk0 : (k == 0) = false := by simp; omega
      have hv : L = false := by rw [HL.out, show decide (65 ≤ c) = true from fc65, show decide (97 ≤ c) = true from fc97]; simp [fk11, fk10, fk6, fc65, fc90, fc97, fc122, fc95, fk0]
      have Hv := hide hv
      clear hv HLC
      go_wp2_with fail
      go_ret
      exact ⟨ret_bool Hv.out.symm, hb1⟩
  · by_cases h0 : k = 0
    · have fk11 : (k == 11) = false := by simp; omega
      have fk10 : (k == 10) = false := by simp; omega
      have fk6 : (k == 6) = false := by simp; omega
      have fc65 : decide (c ≥ 65) = true := by simp; omega
      have fc90 : decide (c ≤ 90) = false := by simp; omega
      have fc97 : decide (c ≥ 97) = true := by simp; omega
      have fc122 : decide (c ≤ 122) = false := by simp; omega
      have fc95 : (c == 95) = false := by simp; omega
      have fk0 : (k == 0) = true := by simp; omega
      have fc192 : decide (c ≥ 192) = true := by simp; omega
      have fn215 : (c != 215) = true := by simp; omega
      have fn247 : (c != 247) = true := by simp; omega
      have fl8192 : decide (c < 8192) = true := by simp; omega
      have fg11264 : decide (c ≥ 11264) = false := by simp; omega
      have hv : L = true := by rw [HL.out, show decide (65 ≤ c) = true from fc65, show decide (97 ≤ c) = true from fc97, show decide (192 ≤ c) = true from fc192, show decide (11264 ≤ c) = false from fg11264]; simp [fk11, fk10, fk6, fc65, fc90, fc97, fc122, fc95, fk0, fc192, fn215, fn247, fl8192, fg11264]
      have Hv := hide hv
      clear hv HLC
      go_wp2_with fail
      go_ret
      exact ⟨ret_bool Hv.out.symm, hb1⟩
    · have fk11 : (k == 11) = false := by simp; omega
      have fk10 : (k == 10) = false := by simp; omega
      have fk6 : (k == 6) = false := by simp; omega
      have fc65 : decide (c ≥ 65) = true := by simp; omega
      have fc90 : decide (c ≤ 90) = false := by simp; omega
      have fc97 : decide (c ≥ 97) = true := by simp; omega
      have fc122 : decide (c ≤ 122) = false := by simp; omega
      have fc95 : (c == 95) = false := by simp; omega
      have fk0 : (k == 0) = false := by simp; omega
      have hv : L = false := by rw [HL.out, show decide (65 ≤ c) = true from fc65, show decide (97 ≤ c) = true from fc97]; simp [fk11, fk10, fk6, fc65, fc90, fc97, fc122, fc95, fk0]
      have Hv := hide hv
      clear hv HLC
      go_wp2_with fail
      go_ret
      exact ⟨ret_bool Hv.out.symm, hb1⟩
  · by_cases h0 : k = 0
    · have fk11 : (k == 11) = false := by simp; omega
      have fk10 : (k == 10) = false := by simp; omega
      have fk6 : (k == 6) = false := by simp; omega
      have fc65 : decide (c ≥ 65) = true := by simp; omega
      have fc90 : decide (c ≤ 90) = false := by simp; omega
      have fc97 : decide (c ≥ 97) = true := by simp; omega
      have fc122 : decide (c ≤ 122) = false := by simp; omega
      have fc95 : (c == 95) = false := by simp; omega
      have fk0 : (k == 0) = true := by simp; omega
      have fc192 : decide (c ≥ 192) = true := by simp; omega
      have fn215 : (c != 215) = true := by simp; omega
      have fn247 : (c != 247) = true := by simp; omega
      have fl8192 : decide (c < 8192) = false := by simp; omega
      have fg11264 : decide (c ≥ 11264) = false := by simp; omega
      have hv : L = false := by rw [HL.out, show decide (65 ≤ c) = true from fc65, show decide (97 ≤ c) = true from fc97, show decide (192 ≤ c) = true from fc192, show decide (11264 ≤ c) = false from fg11264]; simp [fk11, fk10, fk6, fc65, fc90, fc97, fc122, fc95, fk0, fc192, fn215, fn247, fl8192, fg11264]
      have Hv := hide hv
      clear hv HLC
      go_wp2_with fail
      go_ret
      exact ⟨ret_bool Hv.out.symm, hb1⟩
    · have fk11 : (k == 11) = false := by simp; omega
      have fk10 : (k == 10) = false := by simp; omega
      have fk6 : (k == 6) = false := by simp; omega
      have fc65 : decide (c ≥ 65) = true := by simp; omega
      have fc90 : decide (c ≤ 90) = false := by simp; omega
      have fc97 : decide (c ≥ 97) = true := by simp; omega
      have fc122 : decide (c ≤ 122) = false := by simp; omega
      have fc95 : (c == 95) = false := by simp; omega
      have fk0 : (k == 0) = false := by simp; omega
      have hv : L = false := by rw [HL.out, show decide (65 ≤ c) = true from fc65, show decide (97 ≤ c) = true from fc97]; simp [fk11, fk10, fk6, fc65, fc90, fc97, fc122, fc95, fk0]
      have Hv := hide hv
      clear hv HLC
      go_wp2_with fail
      go_ret
      exact ⟨ret_bool Hv.out.symm, hb1⟩
  · by_cases h0 : k = 0
    · have fk11 : (k == 11) = false := by simp; omega
      have fk10 : (k == 10) = false := by simp; omega
      have fk6 : (k == 6) = false := by simp; omega
      have fc65 : decide (c ≥ 65) = true := by simp; omega
      have fc90 : decide (c ≤ 90) = false := by simp; omega
      have fc97 : decide (c ≥ 97) = true := by simp; omega
      have fc122 : decide (c ≤ 122) = false := by simp; omega
      have fc95 : (c == 95) = false := by simp; omega
      have fk0 : (k == 0) = true := by simp; omega
      have fc192 : decide (c ≥ 192) = true := by simp; omega
      have fn215 : (c != 215) = true := by simp; omega
      have fn247 : (c != 247) = true := by simp; omega
      have fl8192 : decide (c < 8192) = false := by simp; omega
      have fg11264 : decide (c ≥ 11264) = true := by simp; omega
      have hv : L = true := by rw [HL.out, show decide (65 ≤ c) = true from fc65, show decide (97 ≤ c) = true from fc97, show decide (192 ≤ c) = true from fc192, show decide (11264 ≤ c) = true from fg11264]; simp [fk11, fk10, fk6, fc65, fc90, fc97, fc122, fc95, fk0, fc192, fn215, fn247, fl8192, fg11264]
      have Hv := hide hv
      clear hv HLC
      go_wp2_with fail
      go_ret
      exact ⟨ret_bool Hv.out.symm, hb1⟩
    · have fk11 : (k == 11) = false := by simp; omega
      have fk10 : (k == 10) = false := by simp; omega
      have fk6 : (k == 6) = false := by simp; omega
      have fc65 : decide (c ≥ 65) = true := by simp; omega
      have fc90 : decide (c ≤ 90) = false := by simp; omega
      have fc97 : decide (c ≥ 97) = true := by simp; omega
      have fc122 : decide (c ≤ 122) = false := by simp; omega
      have fc95 : (c == 95) = false := by simp; omega
      have fk0 : (k == 0) = false := by simp; omega
      have hv : L = false := by rw [HL.out, show decide (65 ≤ c) = true from fc65, show decide (97 ≤ c) = true from fc97]; simp [fk11, fk10, fk6, fc65, fc90, fc97, fc122, fc95, fk0]
      have Hv := hide hv
      clear hv HLC
      go_wp2_with fail
      go_ret
      exact ⟨ret_bool Hv.out.symm, hb1⟩
set_option maxRecDepth 100000 in
set_option maxHeartbeats 4000000 in
theorem inside_ok (A : Option Addr) (c : Nat) (zs : List Int) (i : Nat) (w : World) (ht : TabM w) (hr : RdI w A zs) (h0 : 1 ≤ i) (hi : i < zs.length) (hl : zs.length ≤ 100000) :
    Calls Tryd.prog 28 #[.slice A zs.length c, .int .i64 (i : Int)] w fun e w' => e = .returned (.bool (insB (ix zs) zs.length i)) ∧ Below w.heap.size w w' := by
  have HI : Hid (insB (ix zs) zs.length i = (decide (i + 1 < zs.length) && (if ix zs i = 39 ∨ ix zs i = 8217 then ltrB (ix zs (i - 1)) && ltrB (ix zs (i + 1)) && cls (ix zs (i + 1)) != 10 else if ix zs i = 46 ∨ ix zs i = 44 then cls (ix zs (i - 1)) == 11 && cls (ix zs (i + 1)) == 11 else false))) := rfl
  generalize insB (ix zs) zs.length i = R at *
  have Ht := hide ht
  clear ht
  by_cases h2 : i + 1 < zs.length
  · obtain ⟨b, off, rfl, kx⟩ := hr.at_ (show i - 1 < zs.length by omega)
    have kz := hr.get hi
    have ky := hr.get h2
    have La := hide (fun wx hx => letter_ok (ix zs (i - 1)) wx hx)
    have Lb := hide (fun wx hx => letter_ok (ix zs (i + 1)) wx hx)
    have Ca := hide (fun wx hx => class_ok (ix zs (i - 1)) wx hx)
    have Cb := hide (fun wx hx => class_ok (ix zs (i + 1)) wx hx)
    rw [decide_eq_true h2, Bool.true_and] at HI
    generalize ix zs (i - 1) = x at *
    generalize ix zs (i + 1) = y at *
    generalize ix zs i = z at *
    have d0 : decide ((i : Int) + 1 ≥ (zs.length : Int)) = false := by simp; omega
    have s1 : IntKind.i64.wrap ((i : Int) - 1) = (i : Int) - 1 := IntWalk.i64_in _ (by omega)
    have s2 : (0 : Int) ≤ (i : Int) - 1 := by omega
    have s3 : ((i : Int) - 1).toNat = i - 1 := by omega
    have s4 : (i : Int) - 1 < (zs.length : Int) := by omega
    have s5 : IntKind.i64.wrap ((i : Int) + 1) = (i : Int) + 1 := IntWalk.i64_in _ (by omega)
    have s6 : (0 : Int) ≤ (i : Int) + 1 := by omega
    have s7 : ((i : Int) + 1).toNat = i + 1 := by omega
    have s8 : (i : Int) + 1 < (zs.length : Int) := by omega
    clear hr
    go_enter Tryd.func28, Tryd.ntmps28
    go_upto_region 3 with fail
    go_quiet (fail)
    by_cases z39 : z = 39
    · have e1 : (z == 39) = true := by simpa using z39
      rw [if_pos (.inl z39)] at HI
      go_wp2_with fail
      refine (La.out _ (Ht.out.below (below_drewN (Below.refl _ _) _))).mono ?_
      rintro e w1 ⟨rfl, hb1⟩
      have hB1 : Below w.heap.size w w1 := (below_drewN (Below.refl _ _) _).trans hb1
      cases hla : ltrB x with
      | false =>
        rw [hla] at HI
        go_wp2_with fail
        go_ret
        exact ⟨ret_bool HI.out.symm, hB1⟩
      | true =>
        rw [hla] at HI
        go_wp2_with fail
        refine (Lb.out _ (Ht.out.below hB1)).mono ?_
        rintro e w2 ⟨rfl, hb2⟩
        have hB2 := hB1.trans (hb2.mono hB1.size)
        cases hlb : ltrB y with
        | false =>
          rw [hlb] at HI
          go_wp2_with fail
          go_ret
          exact ⟨ret_bool HI.out.symm, hB2⟩
        | true =>
          rw [hlb] at HI
          go_wp2_with fail
          refine (Cb.out _ (Ht.out.below hB2)).mono ?_
          rintro e w3 ⟨rfl, hb3⟩
          have hB3 := hB2.trans (hb3.mono hB2.size)
          go_wp2_with fail
          go_ret
          exact ⟨ret_bool HI.out.symm, hB3⟩
    have e1 : (z == 39) = false := by simpa using z39
    by_cases z82 : z = 8217
    · have e2 : (z == 8217) = true := by simpa using z82
      rw [if_pos (.inr z82)] at HI
      go_wp2_with fail
      refine (La.out _ (Ht.out.below (below_drewN (Below.refl _ _) _))).mono ?_
      rintro e w1 ⟨rfl, hb1⟩
      have hB1 : Below w.heap.size w w1 := (below_drewN (Below.refl _ _) _).trans hb1
      cases hla : ltrB x with
      | false =>
        rw [hla] at HI
        go_wp2_with fail
        go_ret
        exact ⟨ret_bool HI.out.symm, hB1⟩
      | true =>
        rw [hla] at HI
        go_wp2_with fail
        refine (Lb.out _ (Ht.out.below hB1)).mono ?_
        rintro e w2 ⟨rfl, hb2⟩
        have hB2 := hB1.trans (hb2.mono hB1.size)
        cases hlb : ltrB y with
        | false =>
          rw [hlb] at HI
          go_wp2_with fail
          go_ret
          exact ⟨ret_bool HI.out.symm, hB2⟩
        | true =>
          rw [hlb] at HI
          go_wp2_with fail
          refine (Cb.out _ (Ht.out.below hB2)).mono ?_
          rintro e w3 ⟨rfl, hb3⟩
          have hB3 := hB2.trans (hb3.mono hB2.size)
          go_wp2_with fail
          go_ret
          exact ⟨ret_bool HI.out.symm, hB3⟩
    have e2 : (z == 8217) = false := by simpa using z82
    rw [if_neg (fun h => h.elim z39 z82)] at HI
    by_cases z46 : z = 46
    · have e3 : (z == 46) = true := by simpa using z46
      rw [if_pos (.inl z46)] at HI
      go_wp2_with fail
      refine (Ca.out _ (Ht.out.below (below_drewN (Below.refl _ _) _))).mono ?_
      rintro e w1 ⟨rfl, hb1⟩
      have hB1 : Below w.heap.size w w1 := (below_drewN (Below.refl _ _) _).trans hb1
      cases hca : (cls x == 11) with
      | false =>
        rw [hca] at HI
        go_wp2_with fail
        go_ret
        exact ⟨ret_bool HI.out.symm, hB1⟩
      | true =>
        rw [hca] at HI
        go_wp2_with fail
        refine (Cb.out _ (Ht.out.below hB1)).mono ?_
        rintro e w2 ⟨rfl, hb2⟩
        have hB2 := hB1.trans (hb2.mono hB1.size)
        go_wp2_with fail
        go_ret
        exact ⟨ret_bool HI.out.symm, hB2⟩
    have e3 : (z == 46) = false := by simpa using z46
    by_cases z44 : z = 44
    · have e4 : (z == 44) = true := by simpa using z44
      rw [if_pos (.inr z44)] at HI
      go_wp2_with fail
      refine (Ca.out _ (Ht.out.below (below_drewN (Below.refl _ _) _))).mono ?_
      rintro e w1 ⟨rfl, hb1⟩
      have hB1 : Below w.heap.size w w1 := (below_drewN (Below.refl _ _) _).trans hb1
      cases hca : (cls x == 11) with
      | false =>
        rw [hca] at HI
        go_wp2_with fail
        go_ret
        exact ⟨ret_bool HI.out.symm, hB1⟩
      | true =>
        rw [hca] at HI
        go_wp2_with fail
        refine (Cb.out _ (Ht.out.below hB1)).mono ?_
        rintro e w2 ⟨rfl, hb2⟩
        have hB2 := hB1.trans (hb2.mono hB1.size)
        go_wp2_with fail
        go_ret
        exact ⟨ret_bool HI.out.symm, hB2⟩
    have e4 : (z == 44) = false := by simpa using z44
    rw [if_neg (fun h => h.elim z46 z44)] at HI
    clear z39 z82 z46 z44
    go_wp2_with fail
    go_ret
    exact ⟨ret_bool HI.out.symm, below_drewN (Below.refl _ _) _⟩
  · have d0 : decide ((i : Int) + 1 ≥ (zs.length : Int)) = true := by simp; omega
    rw [decide_eq_false h2, Bool.false_and] at HI
    go_enter Tryd.func28, Tryd.ntmps28
    go_wp2_with fail
    go_ret
    exact ⟨ret_bool HI.out.symm, Below.refl _ _⟩
end Go.Proofs.YtdhhkcboejhoaaaDoor.Bre
