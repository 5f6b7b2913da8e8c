/- Contracts of package lines: may, must, after, last, flagged, added. -/
import Derived.Test.YtmjhmcjlbcadaaaLnPlain
import Derived.Test.YtmjhmcjlbcadaaaProg
namespace Go.Proofs.Ytmjhmcjlbcadaaa.Ln
open Go.RowKit Go.Frm

/-- what a maker holds -/
structure Mk (w : World) (b : Nat) (P : Pts) (ws : List Int) (D : Int) (Ap Aw A2 A3 A4 A5 : Option Addr) (cp cw c2 c3 c4 c5 : Nat) : Prop where
  blk : Blk w b 54 #[.slice Ap P.n cp, .slice Aw ws.length cw, .int .i64 D, .slice A2 (P.n + 1) c2, .slice A3 (P.n + 1) c3, .slice A4 (P.n + 1) c4, .slice A5 (P.n + 2) c5]
  parts : RdF w Ap P.n 6 (ptV P)
  wide : RdI w Aw ws
  w2 : RdI w A2 (tab (P.n + 1) (sW P))
  w3 : RdI w A3 (tab (P.n + 1) (sG P))
  w4 : RdI w A4 (tab (P.n + 1) (sY P))
  w5 : RdI w A5 (tab (P.n + 2) (fun i => if i ≤ P.n then (bg P i : Int) else 0))
section
variable {w : World} {b : Nat} {P : Pts} {ws : List Int} {D : Int} {Ap Aw A2 A3 A4 A5 : Option Addr} {cp cw c2 c3 c4 c5 : Nat}
theorem Mk.below (h : Mk w b P ws D Ap Aw A2 A3 A4 A5 cp cw c2 c3 c4 c5) {w' : World} (hb : Below w.heap.size w w') : Mk w' b P ws D Ap Aw A2 A3 A4 A5 cp cw c2 c3 c4 c5 :=
  ⟨h.blk.below hb h.blk.lt, h.parts.below hb, h.wide.below hb, h.w2.below hb, h.w3.below hb, h.w4.below hb, h.w5.below hb⟩
theorem Mk.c0 (h : Mk w b P ws D Ap Aw A2 A3 A4 A5 cp cw c2 c3 c4 c5) : w.cell? ⟨b, 0, none⟩ = some (.slice Ap P.n cp) := h.blk.cell 0
theorem Mk.c6 (h : Mk w b P ws D Ap Aw A2 A3 A4 A5 cp cw c2 c3 c4 c5) : w.cell? ⟨b, 6, none⟩ = some (.slice A5 (P.n + 2) c5) := h.blk.cell 6
/-- the six cells of a part -/
theorem Mk.cells6 (h : Mk w b P ws D Ap Aw A2 A3 A4 A5 cp cw c2 c3 c4 c5) {k : Nat} (hk : k < P.n) : ∃ bp off, Ap = some ⟨bp, off, none⟩ ∧
    w.cell? ⟨bp, off + k * 6, none⟩ = some (.int .i64 (P.kd k)) ∧ w.cell? ⟨bp, off + k * 6 + 1, none⟩ = some (.int .i64 (P.wd k)) ∧ w.cell? ⟨bp, off + k * 6 + 2, none⟩ = some (.int .i64 (P.st k)) ∧
    w.cell? ⟨bp, off + k * 6 + 3, none⟩ = some (.int .i64 (P.sh k)) ∧ w.cell? ⟨bp, off + k * 6 + 4, none⟩ = some (.int .i64 (P.co k)) ∧ w.cell? ⟨bp, off + k * 6 + 5, none⟩ = some (.bool (P.fl k)) := by
  obtain ⟨bp, off, rfl, hc⟩ := h.parts.at_ hk
  exact ⟨bp, off, rfl, hc 0 (by omega), hc 1 (by omega), hc 2 (by omega), hc 3 (by omega), hc 4 (by omega), hc 5 (by omega)⟩

set_option maxHeartbeats 1000000 in
theorem after_ok (h : Mk w b P ws D Ap Aw A2 A3 A4 A5 cp cw c2 c3 c4 c5) (hn : P.n ≤ 1000) {i : Nat} (hi : i ≤ P.n) :
    Calls Try.prog 20 #[.pointer (some ⟨b, 0, none⟩), .int .i64 i] w fun e w' => e = .returned (.int .i64 (after P i)) ∧ w = w' := by
  have c0 := h.c0
  have c6 := h.c6
  have hb := h.blk.lt
  by_cases he : i = P.n
  · have ha := hide (show after P i = i from if_pos he)
    have e1 : ((i : Int) == (P.n : Int)) = true := by rw [beq_iff_eq]; omega
    clear h he
    go_enter Try.func20, Try.ntmps20
    go_wp2_with fail
    go_ret
    exact ⟨ret_int (by rw [ha.out]), rfl⟩
  · have ha := hide (show after P i = bg P (i + 1) from if_neg he)
    have e1 : ((i : Int) == (P.n : Int)) = false := by rw [beq_eq_false_iff_ne]; omega
    obtain ⟨b5, o5, rfl, k5⟩ := h.w5.at_ (k := i + 1) (by rw [tab_length]; omega)
    rw [tab_ix _ (by omega), if_pos (by omega)] at k5
    have i1 : (i : Int) + 1 < (P.n : Int) + 2 := by omega
    generalize bg P (i + 1) = r at *
    generalize P.n = n at *
    clear h he
    go_enter Try.func20, Try.ntmps20
    go_wp2_with fail
    go_ret
    exact ⟨ret_int (by rw [ha.out]), rfl⟩
set_option maxHeartbeats 1000000 in
theorem last_ok (h : Mk w b P ws D Ap Aw A2 A3 A4 A5 cp cw c2 c3 c4 c5) (hn : P.n ≤ 1000) {i : Nat} (hi : i ≤ P.n) :
    Calls Try.prog 19 #[.pointer (some ⟨b, 0, none⟩), .int .i64 i] w fun e w' => e = .returned (.bool (last P i)) ∧ ∃ d, w' = w.drewN d := by
  have c0 := h.c0
  have hb := h.blk.lt
  have haf : Hid (∀ d, Calls Try.prog 20 #[.pointer (some ⟨b, 0, none⟩), .int .i64 i] (w.drewN d) fun e w' => e = .returned (.int .i64 (after P i)) ∧ w' = w.drewN d) := fun d =>
    (after_ok (w := w.drewN d) (show Mk (w.drewN d) b P ws D Ap Aw A2 A3 A4 A5 cp cw c2 c3 c4 c5 from ⟨h.blk, h.parts, h.wide, h.w2, h.w3, h.w4, h.w5⟩) hn hi).mono (fun e w' ⟨h1, h2⟩ => ⟨h1, h2.symm⟩)
  have hl := hide (show last P i = (after P i == P.n) from rfl)
  have hl2 : ((after P i : Int) == (P.n : Int)) = (after P i == P.n) := by
    rw [Bool.eq_iff_iff, beq_iff_eq, beq_iff_eq]
    omega
  have Hl2 := hide hl2
  generalize after P i = r at *
  generalize P.n = n at *
  clear h hl2
  go_enter Try.func19, Try.ntmps19
  go_wp2_with fail
  go_quiet ((go_at_call 20; exact Calls.quiet_of_same (haf.out _)))
  go_wp2_with fail
  go_ret
  exact ⟨ret_bool (by rw [hl.out, ← Hl2.out]), _, rfl⟩

set_option maxHeartbeats 1000000 in
theorem must_ok (h : Mk w b P ws D Ap Aw A2 A3 A4 A5 cp cw c2 c3 c4 c5) {i : Nat} (hi : i ≤ P.n) :
    Calls Try.prog 28 #[.pointer (some ⟨b, 0, none⟩), .int .i64 i] w fun e w' => e = .returned (.bool (must P i)) ∧ w = w' := by
  have c0 := h.c0
  have hb := h.blk.lt
  by_cases he : i = P.n
  · have ha := hide (show must P i = true by unfold must; simp [he])
    have e1 : ((i : Int) == (P.n : Int)) = true := by rw [beq_iff_eq]; omega
    clear h he
    go_enter Try.func28, Try.ntmps28
    go_wp2_with fail
    go_ret
    exact ⟨ret_bool ha.out.symm, rfl⟩
  · have e1 : ((i : Int) == (P.n : Int)) = false := by rw [beq_eq_false_iff_ne]; omega
    have hlt : i < P.n := by omega
    obtain ⟨bp, off, rfl, k0, k1, k2, k3, k4, k5⟩ := h.cells6 hlt
    have i1 : (i : Int) < (P.n : Int) := by omega
    have ha := hide (show must P i = (P.kd i == 2 && P.co i == -10000) by unfold must; simp [he])
    clear h he k1 k2 k3 k5
    generalize must P i = mu at *
    generalize P.n = n at *
    by_cases h2 : P.kd i = 2
    · have d2 : (P.kd i == 2) = true := by simpa using h2
      by_cases h3 : P.co i = -10000
      · have d3 : (P.co i == -10000) = true := by simpa using h3
        have hb2 := hide (ha.out.trans (by rw [d2, d3]))
        clear ha h2 h3
        go_enter Try.func28, Try.ntmps28
        go_wp2_with fail
        go_ret
        exact ⟨ret_bool hb2.out.symm, rfl⟩
      · have d3 : (P.co i == -10000) = false := by simpa using h3
        have hb2 := hide (ha.out.trans (by rw [d2, d3]))
        clear ha h2 h3
        go_enter Try.func28, Try.ntmps28
        go_wp2_with fail
        go_ret
        exact ⟨ret_bool hb2.out.symm, rfl⟩
    · have d2 : (P.kd i == 2) = false := by simpa using h2
      have hb2 := hide (ha.out.trans (by rw [d2]))
      clear ha h2
      go_enter Try.func28, Try.ntmps28
      go_wp2_with fail
      go_ret
      exact ⟨ret_bool hb2.out.symm, rfl⟩

set_option maxHeartbeats 1000000 in
theorem flagged_ok (h : Mk w b P ws D Ap Aw A2 A3 A4 A5 cp cw c2 c3 c4 c5) {i : Nat} (hi : i ≤ P.n) :
    Calls Try.prog 21 #[.pointer (some ⟨b, 0, none⟩), .int .i64 i] w fun e w' => e = .returned (.bool (flag P i)) ∧ w = w' := by
  have c0 := h.c0
  have hb := h.blk.lt
  by_cases hlt : i < P.n
  · obtain ⟨bp, off, rfl, k0, k1, k2, k3, k4, k5⟩ := h.cells6 hlt
    have i1 : decide ((i : Int) < (P.n : Int)) = true := by simp; omega
    have ha := hide (show flag P i = P.fl i by unfold flag; simp [hlt])
    clear h k0 k1 k2 k3 k4
    generalize flag P i = fg at *
    generalize P.n = n at *
    go_enter Try.func21, Try.ntmps21
    go_wp2_with fail
    go_ret
    exact ⟨ret_bool ha.out.symm, rfl⟩
  · have i1 : decide ((i : Int) < (P.n : Int)) = false := by simp; omega
    have ha := hide (show flag P i = false by unfold flag; simp [hlt])
    clear h
    generalize flag P i = fg at *
    generalize P.n = n at *
    go_enter Try.func21, Try.ntmps21
    go_wp2_with fail
    go_ret
    exact ⟨ret_bool ha.out.symm, rfl⟩

set_option maxHeartbeats 1000000 in
theorem added_ok (h : Mk w b P ws D Ap Aw A2 A3 A4 A5 cp cw c2 c3 c4 c5) {i : Nat} (hi : i ≤ P.n) :
    Calls Try.prog 30 #[.pointer (some ⟨b, 0, none⟩), .int .i64 i] w fun e w' => e = .returned (.int .i64 (added P i)) ∧ w = w' := by
  have c0 := h.c0
  have hb := h.blk.lt
  by_cases hlt : i < P.n
  · obtain ⟨bp, off, rfl, k0, k1, k2, k3, k4, k5⟩ := h.cells6 hlt
    have i1 : decide ((i : Int) < (P.n : Int)) = true := by simp; omega
    have i2 : (i : Int) < (P.n : Int) := by omega
    by_cases h2 : P.kd i = 2
    · have d2 : (P.kd i == 2) = true := by simpa using h2
      have ha := hide (show added P i = P.wd i from if_pos ⟨hlt, h2⟩)
      clear h k2 k3 k4 k5 h2
      generalize added P i = fg at *
      generalize P.n = n at *
      go_enter Try.func30, Try.ntmps30
      go_wp2_with fail
      go_ret
      exact ⟨ret_int ha.out.symm, rfl⟩
    · have d2 : (P.kd i == 2) = false := by simpa using h2
      have ha := hide (show added P i = 0 from if_neg (fun hh => h2 hh.2))
      clear h k1 k2 k3 k4 k5 h2
      generalize added P i = fg at *
      generalize P.n = n at *
      go_enter Try.func30, Try.ntmps30
      go_wp2_with fail
      go_ret
      exact ⟨ret_int ha.out.symm, rfl⟩
  · have i1 : decide ((i : Int) < (P.n : Int)) = false := by simp; omega
    have ha := hide (show added P i = 0 from if_neg (fun hh => hlt hh.1))
    clear h
    generalize added P i = fg at *
    generalize P.n = n at *
    go_enter Try.func30, Try.ntmps30
    go_wp2_with fail
    go_ret
    exact ⟨ret_int ha.out.symm, rfl⟩
end
end Go.Proofs.Ytmjhmcjlbcadaaa.Ln
