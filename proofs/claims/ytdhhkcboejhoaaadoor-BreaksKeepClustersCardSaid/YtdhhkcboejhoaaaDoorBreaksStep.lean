/- The contract of breaks.scan's method step. -/
import Derived.Test.YtdhhkcboejhoaaaDoorBreaksClass
import Derived.Test.YtdhhkcboejhoaaaDoorBreaksPlain
namespace Go.Proofs.YtdhhkcboejhoaaaDoor.Bre
open Go.RowKit Go.Frm Mtr

theorem only_below {G : Nat} {row : Option Nat} {w w' : World} (h : Below w.heap.size w w') : Only G row w w' := ⟨h.os, h.tape, h.output, h.size, fun k hk _ _ => h.block k hk⟩

set_option maxRecDepth 100000 in
set_option maxHeartbeats 8000000 in
theorem step_ok (S : Nat) (s : Scn) (c : Int) (w : World) (hb : Blk w S 62 s.cells) (ht : TabM w) (h0 : 0 ≤ s.spaces) (h1 : s.spaces ≤ 100000) :
    Calls Tryd.prog 32 #[.pointer (some ⟨S, 0, none⟩), .int .i64 c] w fun e w' => e = .returned (.tuple #[]) ∧ Blk w' S 62 (stepF s c).cells ∧ Only S none w w' := by
  obtain ⟨base, before, spaces, firm, any, joined⟩ := s
  have hk := cls_bd c
  have hcl := class_ok c w ht
  have hst : stepF ⟨base, before, spaces, firm, any, joined⟩ c = if (cls c == 10) = true then
      if (any && base != 1) = true then ⟨base, before, spaces, firm, any, c == 8205⟩ else Scn.put ⟨base, before, spaces, firm, any, joined⟩ 0 (c == 8205)
    else Scn.put ⟨base, before, spaces, firm, any, joined⟩ (cls c) (c == 8205) := rfl
  generalize stepF ⟨base, before, spaces, firm, any, joined⟩ c = T at *
  generalize cls c = k at *
  have Hst := hide hst
  have Hcl := hide hcl
  have h0' : 0 ≤ spaces := h0
  have h1' : spaces ≤ 100000 := h1
  clear hcl ht hst h0 h1
  go_enter Tryd.func32, Tryd.ntmps32
  go_wp2_with fail
  refine Hcl.out.mono ?_
  rintro e w1 ⟨rfl, hbel⟩
  have hb1 := hb.below hbel hb.lt
  have ho1 : Only S none w w1 := only_below hbel
  have c0 : w1.cell? ⟨S, 0, none⟩ = some (.int .i64 base) := hb1.cell 0
  have c1 : w1.cell? ⟨S, 1, none⟩ = some (.int .i64 before) := hb1.cell 1
  have c2 : w1.cell? ⟨S, 2, none⟩ = some (.int .i64 spaces) := hb1.cell 2
  have c3 : w1.cell? ⟨S, 3, none⟩ = some (.int .i64 firm) := hb1.cell 3
  have c4 : w1.cell? ⟨S, 4, none⟩ = some (.bool any) := hb1.cell 4
  have c5 : w1.cell? ⟨S, 5, none⟩ = some (.bool joined) := hb1.cell 5
  have z0 := hb1.frozen 0
  have z1 := hb1.frozen 1
  have z2 := hb1.frozen 2
  have z3 := hb1.frozen 3
  have z4 := hb1.frozen 4
  have z5 := hb1.frozen 5
  clear hb Hcl hbel
  cases any
  · rcases Bool.eq_false_or_eq_true (k == 10) with g1 | g1
    · have hr : T = ⟨0, before, 0, 0, true, c == 8205⟩ := by rw [Hst.out]; unfold Scn.put; simp [g1]
      have Hr := hide hr
      clear hr
      go_wp2_with fail
      refine bodyPost_end (results_none rfl _ _ _) rfl ?_
      exact ⟨rfl, by rw [Hr.out]; exact ((((hb1.set_ 5 _).set_ 0 _).set_ 4 _).set_ 2 _).set_ 3 _, ((((ho1.setCell (p := ⟨S, 5, none⟩) (.inl rfl) _).setCell (p := ⟨S, 0, none⟩) (.inl rfl) _).setCell (p := ⟨S, 4, none⟩) (.inl rfl) _).setCell (p := ⟨S, 2, none⟩) (.inl rfl) _).setCell (p := ⟨S, 3, none⟩) (.inl rfl) _⟩
    · rcases Bool.eq_false_or_eq_true (k == 2) with g2 | g2
      · have hr : T = ⟨k, before, spaces + 1, firm, true, c == 8205⟩ := by rw [Hst.out]; unfold Scn.put; simp [g1, g2]
        have Hr := hide hr
        clear hr
        go_wp2_with fail
        refine bodyPost_end (results_none rfl _ _ _) rfl ?_
        exact ⟨rfl, by rw [Hr.out]; exact (((hb1.set_ 5 _).set_ 0 _).set_ 4 _).set_ 2 _, (((ho1.setCell (p := ⟨S, 5, none⟩) (.inl rfl) _).setCell (p := ⟨S, 0, none⟩) (.inl rfl) _).setCell (p := ⟨S, 4, none⟩) (.inl rfl) _).setCell (p := ⟨S, 2, none⟩) (.inl rfl) _⟩
      · have hr : T = ⟨k, before, 0, k, true, c == 8205⟩ := by rw [Hst.out]; unfold Scn.put; simp [g1, g2]
        have Hr := hide hr
        clear hr
        go_wp2_with fail
        refine bodyPost_end (results_none rfl _ _ _) rfl ?_
        exact ⟨rfl, by rw [Hr.out]; exact ((((hb1.set_ 5 _).set_ 0 _).set_ 4 _).set_ 2 _).set_ 3 _, ((((ho1.setCell (p := ⟨S, 5, none⟩) (.inl rfl) _).setCell (p := ⟨S, 0, none⟩) (.inl rfl) _).setCell (p := ⟨S, 4, none⟩) (.inl rfl) _).setCell (p := ⟨S, 2, none⟩) (.inl rfl) _).setCell (p := ⟨S, 3, none⟩) (.inl rfl) _⟩
  · rcases Bool.eq_false_or_eq_true (k == 10) with g1 | g1
    · rcases Bool.eq_false_or_eq_true (base == 1) with g2 | g2
      · have hr : T = ⟨0, base, 0, 0, true, c == 8205⟩ := by rw [Hst.out]; unfold Scn.put; simp [g1, bne, g2]
        have g3 : (base != 1) = false := by simp [bne, g2]
        have Hr := hide hr
        clear hr
        go_wp2_with fail
        refine bodyPost_end (results_none rfl _ _ _) rfl ?_
        exact ⟨rfl, by rw [Hr.out]; exact (((((hb1.set_ 5 _).set_ 1 _).set_ 0 _).set_ 4 _).set_ 2 _).set_ 3 _, (((((ho1.setCell (p := ⟨S, 5, none⟩) (.inl rfl) _).setCell (p := ⟨S, 1, none⟩) (.inl rfl) _).setCell (p := ⟨S, 0, none⟩) (.inl rfl) _).setCell (p := ⟨S, 4, none⟩) (.inl rfl) _).setCell (p := ⟨S, 2, none⟩) (.inl rfl) _).setCell (p := ⟨S, 3, none⟩) (.inl rfl) _⟩
      · have hr : T = ⟨base, before, spaces, firm, true, c == 8205⟩ := by rw [Hst.out]; unfold Scn.put; simp [g1, bne, g2]
        have g3 : (base != 1) = true := by simp [bne, g2]
        have Hr := hide hr
        clear hr
        go_wp2_with fail
        refine bodyPost_ret (v := .tuple #[]) (by simp [results, Tryd.results32, go_sem]) rfl ?_
        exact ⟨rfl, by rw [Hr.out]; exact hb1.set_ 5 _, ho1.setCell (p := ⟨S, 5, none⟩) (.inl rfl) _⟩
    · rcases Bool.eq_false_or_eq_true (k == 2) with g2 | g2
      · have hr : T = ⟨k, base, spaces + 1, firm, true, c == 8205⟩ := by rw [Hst.out]; unfold Scn.put; simp [g1, g2]
        have Hr := hide hr
        clear hr
        go_wp2_with fail
        refine bodyPost_end (results_none rfl _ _ _) rfl ?_
        exact ⟨rfl, by rw [Hr.out]; exact ((((hb1.set_ 5 _).set_ 1 _).set_ 0 _).set_ 4 _).set_ 2 _, ((((ho1.setCell (p := ⟨S, 5, none⟩) (.inl rfl) _).setCell (p := ⟨S, 1, none⟩) (.inl rfl) _).setCell (p := ⟨S, 0, none⟩) (.inl rfl) _).setCell (p := ⟨S, 4, none⟩) (.inl rfl) _).setCell (p := ⟨S, 2, none⟩) (.inl rfl) _⟩
      · have hr : T = ⟨k, base, 0, k, true, c == 8205⟩ := by rw [Hst.out]; unfold Scn.put; simp [g1, g2]
        have Hr := hide hr
        clear hr
        go_wp2_with fail
        refine bodyPost_end (results_none rfl _ _ _) rfl ?_
        exact ⟨rfl, by rw [Hr.out]; exact (((((hb1.set_ 5 _).set_ 1 _).set_ 0 _).set_ 4 _).set_ 2 _).set_ 3 _, (((((ho1.setCell (p := ⟨S, 5, none⟩) (.inl rfl) _).setCell (p := ⟨S, 1, none⟩) (.inl rfl) _).setCell (p := ⟨S, 0, none⟩) (.inl rfl) _).setCell (p := ⟨S, 4, none⟩) (.inl rfl) _).setCell (p := ⟨S, 2, none⟩) (.inl rfl) _).setCell (p := ⟨S, 3, none⟩) (.inl rfl) _⟩
end Go.Proofs.YtdhhkcboejhoaaaDoor.Bre
