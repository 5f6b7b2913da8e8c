/- The contract of breaks.scan's method may. (Printed by wip/bin/scangen.py.) -/
import Derived.Test.YtdhhkcboejhoaaaDoorBreaksClass
import Derived.Test.YtdhhkcboejhoaaaDoorBreaksPlain
namespace Go.Proofs.YtdhhkcboejhoaaaDoor.Bre
open Go.RowKit Go.Frm Mtr

set_option maxRecDepth 100000 in
set_option maxHeartbeats 8000000 in
theorem may_ok (S : Nat) (s : Scn) (c : Int) (w : World) (hb : Blk w S 62 s.cells) (ht : TabM w) (h0 : 0 ≤ s.spaces) (h1 : s.spaces ≤ 100000) :
    Calls Tryd.prog 31 #[.pointer (some ⟨S, 0, none⟩), .int .i64 c] w fun e w' => e = .returned (.tuple #[.int .i64 (mayF s (cls c)).1, .bool (mayF s (cls c)).2]) ∧ Below w.heap.size w w' := by
  obtain ⟨base, before, spaces, firm, any, joined⟩ := s
  have hk := cls_bd c
  have hcl := class_ok c w ht
  generalize cls c = k at *
  have Hcl := hide hcl
  clear hcl ht
  have h0' : 0 ≤ spaces := h0
  have h1' : spaces ≤ 100000 := h1
  clear h0 h1
  go_enter Tryd.func31, Tryd.ntmps31
  go_wp2_with fail
  refine Hcl.out.mono ?_
  rintro e w1 ⟨rfl, hbel⟩
  have hb1 := hb.below hbel hb.lt
  have c0 : w1.cell? ⟨S, 0, none⟩ = some (.int .i64 base) := hb1.cell 0
  have c1 : w1.cell? ⟨S, 1, none⟩ = some (.int .i64 before) := hb1.cell 1
  have c2 : w1.cell? ⟨S, 2, none⟩ = some (.int .i64 spaces) := hb1.cell 2
  have c3 : w1.cell? ⟨S, 3, none⟩ = some (.int .i64 firm) := hb1.cell 3
  have c5 : w1.cell? ⟨S, 5, none⟩ = some (.bool joined) := hb1.cell 5
  clear hb hb1 Hcl
  rcases Bool.eq_false_or_eq_true (base == 1) with g1 | g1
  · --
    have hr : mayF ⟨base, before, spaces, firm, any, joined⟩ k = (2, true) := by unfold mayF; simp [*]
    have Hr := hide hr
    clear hr
    go_wp2_with fail
    go_ret2
    exact ⟨by rw [Hr.out]; rfl, hbel⟩
  rcases Bool.eq_false_or_eq_true joined with gj | gj
  · --
    have hr : mayF ⟨base, before, spaces, firm, any, joined⟩ k = (0, false) := by unfold mayF; simp [*]
    have Hr := hide hr
    clear hr
    go_wp2_with fail
    go_ret2
    exact ⟨by rw [Hr.out]; rfl, hbel⟩
  rcases Bool.eq_false_or_eq_true (k == 1) with g2 | g2
  · --
    have hr : mayF ⟨base, before, spaces, firm, any, joined⟩ k = (0, false) := by unfold mayF; simp [*]
    have Hr := hide hr
    clear hr
    go_wp2_with fail
    go_ret2
    exact ⟨by rw [Hr.out]; rfl, hbel⟩
  rcases Bool.eq_false_or_eq_true (k == 2) with g3 | g3
  · --
    have hr : mayF ⟨base, before, spaces, firm, any, joined⟩ k = (0, false) := by unfold mayF; simp [*]
    have Hr := hide hr
    clear hr
    go_wp2_with fail
    go_ret2
    exact ⟨by rw [Hr.out]; rfl, hbel⟩
  rcases Bool.eq_false_or_eq_true (k == 10) with g4 | g4
  · --
    have hr : mayF ⟨base, before, spaces, firm, any, joined⟩ k = (0, false) := by unfold mayF; simp [*]
    have Hr := hide hr
    clear hr
    go_wp2_with fail
    go_ret2
    exact ⟨by rw [Hr.out]; rfl, hbel⟩
  rcases Bool.eq_false_or_eq_true (k == 3) with g5 | g5
  · --
    have hr : mayF ⟨base, before, spaces, firm, any, joined⟩ k = (0, false) := by unfold mayF; simp [*]
    have Hr := hide hr
    clear hr
    go_wp2_with fail
    go_ret2
    exact ⟨by rw [Hr.out]; rfl, hbel⟩
  rcases Bool.eq_false_or_eq_true (firm == 3) with g6 | g6
  · --
    have hr : mayF ⟨base, before, spaces, firm, any, joined⟩ k = (0, true) := by unfold mayF; simp [*]
    have Hr := hide hr
    clear hr
    go_wp2_with fail
    go_ret2
    exact ⟨by rw [Hr.out]; rfl, hbel⟩
  rcases Bool.eq_false_or_eq_true (base == 4) with g7 | g7
  · --
    have hr : mayF ⟨base, before, spaces, firm, any, joined⟩ k = (0, false) := by unfold mayF; simp [*]
    have Hr := hide hr
    clear hr
    go_wp2_with fail
    go_ret2
    exact ⟨by rw [Hr.out]; rfl, hbel⟩
  rcases Bool.eq_false_or_eq_true (k == 4) with g8 | g8
  · --
    rcases Bool.eq_false_or_eq_true (spaces == 0) with g9 | g9
    · --
      have hr : mayF ⟨base, before, spaces, firm, any, joined⟩ k = (0, false) := by unfold mayF; simp [*]
      have Hr := hide hr
      clear hr
      go_wp2_with fail
      go_ret2
      exact ⟨by rw [Hr.out]; rfl, hbel⟩
    have k8 : (k == 8) = false := by rw [eq_of_beq g8]; rfl
    rcases Bool.eq_false_or_eq_true (firm == 7) with g10 | g10
    · --
      have hr : mayF ⟨base, before, spaces, firm, any, joined⟩ k = (0, false) := by unfold mayF; simp [*]
      have Hr := hide hr
      clear hr
      go_wp2_with fail
      go_ret2
      exact ⟨by rw [Hr.out]; rfl, hbel⟩
    have sp : decide (0 < spaces) = true := decide_eq_true (by have h9 : spaces ≠ 0 := (fun h => by rw [h] at g9; cases g9); omega)
    have hr : mayF ⟨base, before, spaces, firm, any, joined⟩ k = (0, true) := by unfold mayF; simp [*]
    have Hr := hide hr
    clear hr
    go_wp2_with fail
    go_ret2
    exact ⟨by rw [Hr.out]; rfl, hbel⟩
  rcases Bool.eq_false_or_eq_true (k == 8) with g11 | g11
  · --
    have hr : mayF ⟨base, before, spaces, firm, any, joined⟩ k = (0, false) := by unfold mayF; simp [*]
    have Hr := hide hr
    clear hr
    go_wp2_with fail
    go_ret2
    exact ⟨by rw [Hr.out]; rfl, hbel⟩
  rcases Bool.eq_false_or_eq_true (firm == 7) with g12 | g12
  · --
    have hr : mayF ⟨base, before, spaces, firm, any, joined⟩ k = (0, false) := by unfold mayF; simp [*]
    have Hr := hide hr
    clear hr
    go_wp2_with fail
    go_ret2
    exact ⟨by rw [Hr.out]; rfl, hbel⟩
  rcases Bool.eq_false_or_eq_true (decide (0 < spaces)) with g13 | g13
  · --
    have hr : mayF ⟨base, before, spaces, firm, any, joined⟩ k = (0, true) := by unfold mayF; simp [*]
    have Hr := hide hr
    clear hr
    go_wp2_with fail
    go_ret2
    exact ⟨by rw [Hr.out]; rfl, hbel⟩
  rcases Bool.eq_false_or_eq_true (base == 6) with g14 | g14
  · --
    have hr : mayF ⟨base, before, spaces, firm, any, joined⟩ k = (1, true) := by unfold mayF; simp [*]
    have Hr := hide hr
    clear hr
    go_wp2_with fail
    go_ret2
    exact ⟨by rw [Hr.out]; rfl, hbel⟩
  rcases Bool.eq_false_or_eq_true (base == 5) with g15 | g15
  · --
    rcases Bool.eq_false_or_eq_true (k != 11) with g16 | g16
    · --
      rcases Bool.eq_false_or_eq_true (before != 2) with g17 | g17
      · --
        rcases Bool.eq_false_or_eq_true (before != 1) with g18 | g18
        · --
          have hr : mayF ⟨base, before, spaces, firm, any, joined⟩ k = (0, true) := by unfold mayF; simp [*]
          have Hr := hide hr
          clear hr
          go_wp2_with fail
          go_quiet (fail)
          go_wp2_with fail
          go_ret2
          exact ⟨by rw [Hr.out]; rfl, below_drewN hbel _⟩
        have hr : mayF ⟨base, before, spaces, firm, any, joined⟩ k = (0, false) := by unfold mayF; simp [*]
        have Hr := hide hr
        clear hr
        go_wp2_with fail
        go_quiet (fail)
        go_wp2_with fail
        go_ret2
        exact ⟨by rw [Hr.out]; rfl, below_drewN hbel _⟩
      have hr : mayF ⟨base, before, spaces, firm, any, joined⟩ k = (0, false) := by unfold mayF; simp [*]
      have Hr := hide hr
      clear hr
      go_wp2_with fail
      go_quiet (fail)
      go_wp2_with fail
      go_ret2
      exact ⟨by rw [Hr.out]; rfl, below_drewN hbel _⟩
    have hr : mayF ⟨base, before, spaces, firm, any, joined⟩ k = (0, false) := by unfold mayF; simp [*]
    have Hr := hide hr
    clear hr
    go_wp2_with fail
    go_quiet (fail)
    go_wp2_with fail
    go_ret2
    exact ⟨by rw [Hr.out]; rfl, below_drewN hbel _⟩
  rcases Bool.eq_false_or_eq_true (base == 9) with g19 | g19
  · --
    have hr : mayF ⟨base, before, spaces, firm, any, joined⟩ k = (0, true) := by unfold mayF; simp [*]
    have Hr := hide hr
    clear hr
    go_wp2_with fail
    go_ret2
    exact ⟨by rw [Hr.out]; rfl, hbel⟩
  rcases Bool.eq_false_or_eq_true (k == 9) with g20 | g20
  · --
    have hr : mayF ⟨base, before, spaces, firm, any, joined⟩ k = (0, true) := by unfold mayF; simp [*]
    have Hr := hide hr
    clear hr
    go_wp2_with fail
    go_ret2
    exact ⟨by rw [Hr.out]; rfl, hbel⟩
  have hr : mayF ⟨base, before, spaces, firm, any, joined⟩ k = (0, false) := by unfold mayF; simp [*]
  have Hr := hide hr
  clear hr
  go_wp2_with fail
  go_ret2
  exact ⟨by rw [Hr.out]; rfl, hbel⟩
end Go.Proofs.YtdhhkcboejhoaaaDoor.Bre
