/- The contract of breaks.class. (Printed by wip/bin/classgen.py.) -/
import Derived.Test.YtdhhkcboejhoaaaDoorMetric
import Derived.Test.YtdhhkcboejhoaaaDoorBreaksCls
import Derived.Deep.CutBlock
namespace Go.Proofs.YtdhhkcboejhoaaaDoor.Bre
open Go.RowKit Go.Frm Mtr
theorem val_bool {a b : Bool} (h : a = b) : Value.bool a = Value.bool b := by rw [h]

set_option maxRecDepth 100000 in
set_option maxHeartbeats 8000000 in
theorem class_ok (c : Int) (w : World) (ht : TabM w) : Calls Tryd.prog 27 #[.int .i64 c] w fun e w' => e = .returned (.int .i64 (cls c)) ∧ Below w.heap.size w w' := by
  have Hm := hide (mark_ok c w ht)
  clear ht
  go_enter Tryd.func27, Tryd.ntmps27
  go_upto_region 1 with fail
  go_cut [3] (fun v wc => v = .bool (b0 c) ∧ w = wc)
  case first =>
    as_aux_lemma =>
      rcases Bool.eq_false_or_eq_true (c == 10) with g0 | g0
      · as_aux_lemma =>
          have hb : b0 c = true := by unfold b0; simp [*]
          have Hb := hide hb
          clear hb
          go_wp2_with fail
          go_meet
          exact ⟨val_bool (by first | (rw [Hb.out]; done) | (rw [Hb.out]; rfl) | (rw [Hb.out]; simp; omega)), rfl⟩
      have hb : b0 c = false := by unfold b0; simp [*]
      have Hb := hide hb
      clear hb
      go_wp2_with fail
      go_meet
      exact ⟨val_bool (by first | (rw [Hb.out]; done) | (rw [Hb.out]; rfl) | (rw [Hb.out]; simp; omega)), rfl⟩
  case rest =>
    as_aux_lemma =>
      obtain ⟨rfl, rfl⟩ := hcut
      rcases Bool.eq_false_or_eq_true (b0 c) with q0 | q0
      · as_aux_lemma =>
        have hr : cls c = 1 := by unfold cls; simp [q0]
        have Hr := hide hr
        rw [q0]
        clear hr q0
        go_wp2_with fail
        go_ret
        exact ⟨ret_int Hr.out.symm, Below.refl _ _⟩
      have H0 := hide q0
      rw [q0]
      clear q0
      go_upto_region 3 with fail
      go_cut [6] (fun v wc => v = .bool (b1 c) ∧ w = wc)
      case first =>
        as_aux_lemma =>
          rcases Bool.eq_false_or_eq_true (c == 32) with g0 | g0
          · as_aux_lemma =>
              have hb : b1 c = true := by unfold b1; simp [*]
              have Hb := hide hb
              clear hb
              go_wp2_with fail
              go_meet
              exact ⟨val_bool (by first | (rw [Hb.out]; done) | (rw [Hb.out]; rfl) | (rw [Hb.out]; simp; omega)), rfl⟩
          rcases Bool.eq_false_or_eq_true (c == 9) with g1 | g1
          · as_aux_lemma =>
              have hb : b1 c = true := by unfold b1; simp [*]
              have Hb := hide hb
              clear hb
              go_wp2_with fail
              go_meet
              exact ⟨val_bool (by first | (rw [Hb.out]; done) | (rw [Hb.out]; rfl) | (rw [Hb.out]; simp; omega)), rfl⟩
          have hb : b1 c = false := by unfold b1; simp [*]
          have Hb := hide hb
          clear hb
          go_wp2_with fail
          go_meet
          exact ⟨val_bool (by first | (rw [Hb.out]; done) | (rw [Hb.out]; rfl) | (rw [Hb.out]; simp; omega)), rfl⟩
      case rest =>
        as_aux_lemma =>
          obtain ⟨rfl, rfl⟩ := hcut
          rcases Bool.eq_false_or_eq_true (b1 c) with q1 | q1
          · as_aux_lemma =>
            have hr : cls c = 2 := by unfold cls; simp [(H0.out), q1]
            have Hr := hide hr
            rw [q1]
            clear hr q1
            go_wp2_with fail
            go_ret
            exact ⟨ret_int Hr.out.symm, Below.refl _ _⟩
          have H1 := hide q1
          rw [q1]
          clear q1
          go_upto_region 5 with fail
          go_cut [13] (fun v wc => v = .bool (b2 c) ∧ w = wc)
          case first =>
            as_aux_lemma =>
              rcases Bool.eq_false_or_eq_true (c == 8203) with g0 | g0
              · as_aux_lemma =>
                  have hb : b2 c = true := by unfold b2; simp [*]
                  have Hb := hide hb
                  clear hb
                  go_wp2_with fail
                  go_meet
                  exact ⟨val_bool (by first | (rw [Hb.out]; done) | (rw [Hb.out]; rfl) | (rw [Hb.out]; simp; omega)), rfl⟩
              have hb : b2 c = false := by unfold b2; simp [*]
              have Hb := hide hb
              clear hb
              go_wp2_with fail
              go_meet
              exact ⟨val_bool (by first | (rw [Hb.out]; done) | (rw [Hb.out]; rfl) | (rw [Hb.out]; simp; omega)), rfl⟩
          case rest =>
            as_aux_lemma =>
              obtain ⟨rfl, rfl⟩ := hcut
              rcases Bool.eq_false_or_eq_true (b2 c) with q2 | q2
              · as_aux_lemma =>
                have hr : cls c = 3 := by unfold cls; simp [(H0.out), (H1.out), q2]
                have Hr := hide hr
                rw [q2]
                clear hr q2
                go_wp2_with fail
                go_ret
                exact ⟨ret_int Hr.out.symm, Below.refl _ _⟩
              have H2 := hide q2
              rw [q2]
              clear q2
              go_upto_region 7 with fail
              go_cut [16] (fun v wc => v = .bool (b3 c) ∧ w = wc)
              case first =>
                as_aux_lemma =>
                  rcases Bool.eq_false_or_eq_true (c == 160) with g0 | g0
                  · as_aux_lemma =>
                      have hb : b3 c = true := by unfold b3; simp [*]
                      have Hb := hide hb
                      clear hb
                      go_wp2_with fail
                      go_meet
                      exact ⟨val_bool (by first | (rw [Hb.out]; done) | (rw [Hb.out]; rfl) | (rw [Hb.out]; simp; omega)), rfl⟩
                  rcases Bool.eq_false_or_eq_true (c == 8239) with g1 | g1
                  · as_aux_lemma =>
                      have hb : b3 c = true := by unfold b3; simp [*]
                      have Hb := hide hb
                      clear hb
                      go_wp2_with fail
                      go_meet
                      exact ⟨val_bool (by first | (rw [Hb.out]; done) | (rw [Hb.out]; rfl) | (rw [Hb.out]; simp; omega)), rfl⟩
                  rcases Bool.eq_false_or_eq_true (c == 8288) with g2 | g2
                  · as_aux_lemma =>
                      have hb : b3 c = true := by unfold b3; simp [*]
                      have Hb := hide hb
                      clear hb
                      go_wp2_with fail
                      go_meet
                      exact ⟨val_bool (by first | (rw [Hb.out]; done) | (rw [Hb.out]; rfl) | (rw [Hb.out]; simp; omega)), rfl⟩
                  rcases Bool.eq_false_or_eq_true (c == 65279) with g3 | g3
                  · as_aux_lemma =>
                      have hb : b3 c = true := by unfold b3; simp [*]
                      have Hb := hide hb
                      clear hb
                      go_wp2_with fail
                      go_meet
                      exact ⟨val_bool (by first | (rw [Hb.out]; done) | (rw [Hb.out]; rfl) | (rw [Hb.out]; simp; omega)), rfl⟩
                  have hb : b3 c = false := by unfold b3; simp [*]
                  have Hb := hide hb
                  clear hb
                  go_wp2_with fail
                  go_meet
                  exact ⟨val_bool (by first | (rw [Hb.out]; done) | (rw [Hb.out]; rfl) | (rw [Hb.out]; simp; omega)), rfl⟩
              case rest =>
                as_aux_lemma =>
                  obtain ⟨rfl, rfl⟩ := hcut
                  rcases Bool.eq_false_or_eq_true (b3 c) with q3 | q3
                  · as_aux_lemma =>
                    have hr : cls c = 4 := by unfold cls; simp [(H0.out), (H1.out), (H2.out), q3]
                    have Hr := hide hr
                    rw [q3]
                    clear hr q3
                    go_wp2_with fail
                    go_ret
                    exact ⟨ret_int Hr.out.symm, Below.refl _ _⟩
                  have H3 := hide q3
                  rw [q3]
                  clear q3
                  go_upto_region 9 with fail
                  go_cut [31] (fun v wc => v = .bool (b4 c) ∧ w = wc)
                  case first =>
                    as_aux_lemma =>
                      rcases Bool.eq_false_or_eq_true (c == 45) with g0 | g0
                      · as_aux_lemma =>
                          have hb : b4 c = true := by unfold b4; simp [*]
                          have Hb := hide hb
                          clear hb
                          go_wp2_with fail
                          go_meet
                          exact ⟨val_bool (by first | (rw [Hb.out]; done) | (rw [Hb.out]; rfl) | (rw [Hb.out]; simp; omega)), rfl⟩
                      rcases Bool.eq_false_or_eq_true (c == 8208) with g1 | g1
                      · as_aux_lemma =>
                          have hb : b4 c = true := by unfold b4; simp [*]
                          have Hb := hide hb
                          clear hb
                          go_wp2_with fail
                          go_meet
                          exact ⟨val_bool (by first | (rw [Hb.out]; done) | (rw [Hb.out]; rfl) | (rw [Hb.out]; simp; omega)), rfl⟩
                      rcases Bool.eq_false_or_eq_true (c == 8211) with g2 | g2
                      · as_aux_lemma =>
                          have hb : b4 c = true := by unfold b4; simp [*]
                          have Hb := hide hb
                          clear hb
                          go_wp2_with fail
                          go_meet
                          exact ⟨val_bool (by first | (rw [Hb.out]; done) | (rw [Hb.out]; rfl) | (rw [Hb.out]; simp; omega)), rfl⟩
                      have hb : b4 c = false := by unfold b4; simp [*]
                      have Hb := hide hb
                      clear hb
                      go_wp2_with fail
                      go_meet
                      exact ⟨val_bool (by first | (rw [Hb.out]; done) | (rw [Hb.out]; rfl) | (rw [Hb.out]; simp; omega)), rfl⟩
                  case rest =>
                    as_aux_lemma =>
                      obtain ⟨rfl, rfl⟩ := hcut
                      rcases Bool.eq_false_or_eq_true (b4 c) with q4 | q4
                      · as_aux_lemma =>
                        have hr : cls c = 5 := by unfold cls; simp [(H0.out), (H1.out), (H2.out), (H3.out), q4]
                        have Hr := hide hr
                        rw [q4]
                        clear hr q4
                        go_wp2_with fail
                        go_ret
                        exact ⟨ret_int Hr.out.symm, Below.refl _ _⟩
                      have H4 := hide q4
                      rw [q4]
                      clear q4
                      go_upto_region 11 with fail
                      go_cut [42] (fun v wc => v = .bool (b5 c) ∧ w = wc)
                      case first =>
                        as_aux_lemma =>
                          rcases Bool.eq_false_or_eq_true (c == 173) with g0 | g0
                          · as_aux_lemma =>
                              have hb : b5 c = true := by unfold b5; simp [*]
                              have Hb := hide hb
                              clear hb
                              go_wp2_with fail
                              go_meet
                              exact ⟨val_bool (by first | (rw [Hb.out]; done) | (rw [Hb.out]; rfl) | (rw [Hb.out]; simp; omega)), rfl⟩
                          have hb : b5 c = false := by unfold b5; simp [*]
                          have Hb := hide hb
                          clear hb
                          go_wp2_with fail
                          go_meet
                          exact ⟨val_bool (by first | (rw [Hb.out]; done) | (rw [Hb.out]; rfl) | (rw [Hb.out]; simp; omega)), rfl⟩
                      case rest =>
                        as_aux_lemma =>
                          obtain ⟨rfl, rfl⟩ := hcut
                          rcases Bool.eq_false_or_eq_true (b5 c) with q5 | q5
                          · as_aux_lemma =>
                            have hr : cls c = 6 := by unfold cls; simp [(H0.out), (H1.out), (H2.out), (H3.out), (H4.out), q5]
                            have Hr := hide hr
                            rw [q5]
                            clear hr q5
                            go_wp2_with fail
                            go_ret
                            exact ⟨ret_int Hr.out.symm, Below.refl _ _⟩
                          have H5 := hide q5
                          rw [q5]
                          clear q5
                          go_upto_region 13 with fail
                          go_cut [45] (fun v wc => v = .bool (b6 c) ∧ w = wc)
                          case first =>
                            as_aux_lemma =>
                              have hg : (c < 48) ∨ (48 ≤ c ∧ c ≤ 57) ∨ (57 < c) := by omega
                              rcases hg with h1 | ⟨h1, h2⟩ | h1
                              · as_aux_lemma =>
                                  have hb : b6 c = false := by unfold b6; simp; omega
                                  have Hb := hide hb
                                  clear hb
                                  go_wp2_with fail
                                  go_meet
                                  exact ⟨val_bool (by first | (rw [Hb.out]; done) | (rw [Hb.out]; rfl) | (rw [Hb.out]; simp; omega)), rfl⟩
                              · as_aux_lemma =>
                                  have hb : b6 c = true := by unfold b6; simp; omega
                                  have Hb := hide hb
                                  clear hb
                                  go_wp2_with fail
                                  go_meet
                                  exact ⟨val_bool (by first | (rw [Hb.out]; done) | (rw [Hb.out]; rfl) | (rw [Hb.out]; simp; omega)), rfl⟩
                              · as_aux_lemma =>
                                  have hb : b6 c = false := by unfold b6; simp; omega
                                  have Hb := hide hb
                                  clear hb
                                  go_wp2_with fail
                                  go_meet
                                  exact ⟨val_bool (by first | (rw [Hb.out]; done) | (rw [Hb.out]; rfl) | (rw [Hb.out]; simp; omega)), rfl⟩
                          case rest =>
                            as_aux_lemma =>
                              obtain ⟨rfl, rfl⟩ := hcut
                              rcases Bool.eq_false_or_eq_true (b6 c) with q6 | q6
                              · as_aux_lemma =>
                                have hr : cls c = 11 := by unfold cls; simp [(H0.out), (H1.out), (H2.out), (H3.out), (H4.out), (H5.out), q6]
                                have Hr := hide hr
                                rw [q6]
                                clear hr q6
                                go_wp2_with fail
                                go_ret
                                exact ⟨ret_int Hr.out.symm, Below.refl _ _⟩
                              have H6 := hide q6
                              rw [q6]
                              clear q6
                              go_upto_region 15 with fail
                              go_cut [52] (fun v wc => v = .bool (b7 c) ∧ w = wc)
                              case first =>
                                as_aux_lemma =>
                                  rcases Bool.eq_false_or_eq_true (c == 40) with g0 | g0
                                  · as_aux_lemma =>
                                      have hb : b7 c = true := by unfold b7; simp [*]
                                      have Hb := hide hb
                                      clear hb
                                      go_wp2_with fail
                                      go_meet
                                      exact ⟨val_bool (by first | (rw [Hb.out]; done) | (rw [Hb.out]; rfl) | (rw [Hb.out]; simp; omega)), rfl⟩
                                  rcases Bool.eq_false_or_eq_true (c == 91) with g1 | g1
                                  · as_aux_lemma =>
                                      have hb : b7 c = true := by unfold b7; simp [*]
                                      have Hb := hide hb
                                      clear hb
                                      go_wp2_with fail
                                      go_meet
                                      exact ⟨val_bool (by first | (rw [Hb.out]; done) | (rw [Hb.out]; rfl) | (rw [Hb.out]; simp; omega)), rfl⟩
                                  rcases Bool.eq_false_or_eq_true (c == 123) with g2 | g2
                                  · as_aux_lemma =>
                                      have hb : b7 c = true := by unfold b7; simp [*]
                                      have Hb := hide hb
                                      clear hb
                                      go_wp2_with fail
                                      go_meet
                                      exact ⟨val_bool (by first | (rw [Hb.out]; done) | (rw [Hb.out]; rfl) | (rw [Hb.out]; simp; omega)), rfl⟩
                                  rcases Bool.eq_false_or_eq_true (c == 171) with g3 | g3
                                  · as_aux_lemma =>
                                      have hb : b7 c = true := by unfold b7; simp [*]
                                      have Hb := hide hb
                                      clear hb
                                      go_wp2_with fail
                                      go_meet
                                      exact ⟨val_bool (by first | (rw [Hb.out]; done) | (rw [Hb.out]; rfl) | (rw [Hb.out]; simp; omega)), rfl⟩
                                  rcases Bool.eq_false_or_eq_true (c == 191) with g4 | g4
                                  · as_aux_lemma =>
                                      have hb : b7 c = true := by unfold b7; simp [*]
                                      have Hb := hide hb
                                      clear hb
                                      go_wp2_with fail
                                      go_meet
                                      exact ⟨val_bool (by first | (rw [Hb.out]; done) | (rw [Hb.out]; rfl) | (rw [Hb.out]; simp; omega)), rfl⟩
                                  rcases Bool.eq_false_or_eq_true (c == 161) with g5 | g5
                                  · as_aux_lemma =>
                                      have hb : b7 c = true := by unfold b7; simp [*]
                                      have Hb := hide hb
                                      clear hb
                                      go_wp2_with fail
                                      go_meet
                                      exact ⟨val_bool (by first | (rw [Hb.out]; done) | (rw [Hb.out]; rfl) | (rw [Hb.out]; simp; omega)), rfl⟩
                                  rcases Bool.eq_false_or_eq_true (c == 8216) with g6 | g6
                                  · as_aux_lemma =>
                                      have hb : b7 c = true := by unfold b7; simp [*]
                                      have Hb := hide hb
                                      clear hb
                                      go_wp2_with fail
                                      go_meet
                                      exact ⟨val_bool (by first | (rw [Hb.out]; done) | (rw [Hb.out]; rfl) | (rw [Hb.out]; simp; omega)), rfl⟩
                                  rcases Bool.eq_false_or_eq_true (c == 8220) with g7 | g7
                                  · as_aux_lemma =>
                                      have hb : b7 c = true := by unfold b7; simp [*]
                                      have Hb := hide hb
                                      clear hb
                                      go_wp2_with fail
                                      go_meet
                                      exact ⟨val_bool (by first | (rw [Hb.out]; done) | (rw [Hb.out]; rfl) | (rw [Hb.out]; simp; omega)), rfl⟩
                                  rcases Bool.eq_false_or_eq_true (c == 12300) with g8 | g8
                                  · as_aux_lemma =>
                                      have hb : b7 c = true := by unfold b7; simp [*]
                                      have Hb := hide hb
                                      clear hb
                                      go_wp2_with fail
                                      go_meet
                                      exact ⟨val_bool (by first | (rw [Hb.out]; done) | (rw [Hb.out]; rfl) | (rw [Hb.out]; simp; omega)), rfl⟩
                                  have hb : b7 c = false := by unfold b7; simp [*]
                                  have Hb := hide hb
                                  clear hb
                                  go_wp2_with fail
                                  go_meet
                                  exact ⟨val_bool (by first | (rw [Hb.out]; done) | (rw [Hb.out]; rfl) | (rw [Hb.out]; simp; omega)), rfl⟩
                              case rest =>
                                as_aux_lemma =>
                                  obtain ⟨rfl, rfl⟩ := hcut
                                  rcases Bool.eq_false_or_eq_true (b7 c) with q7 | q7
                                  · as_aux_lemma =>
                                    have hr : cls c = 7 := by unfold cls; simp [(H0.out), (H1.out), (H2.out), (H3.out), (H4.out), (H5.out), (H6.out), q7]
                                    have Hr := hide hr
                                    rw [q7]
                                    clear hr q7
                                    go_wp2_with fail
                                    go_ret
                                    exact ⟨ret_int Hr.out.symm, Below.refl _ _⟩
                                  have H7 := hide q7
                                  rw [q7]
                                  clear q7
                                  go_upto_region 17 with fail
                                  go_cut [87] (fun v wc => v = .bool (b8 c) ∧ w = wc)
                                  case first =>
                                    as_aux_lemma =>
                                      rcases Bool.eq_false_or_eq_true (c == 41) with g0 | g0
                                      · as_aux_lemma =>
                                          have hb : b8 c = true := by unfold b8; simp [*]
                                          have Hb := hide hb
                                          clear hb
                                          go_wp2_with fail
                                          go_meet
                                          exact ⟨val_bool (by first | (rw [Hb.out]; done) | (rw [Hb.out]; rfl) | (rw [Hb.out]; simp; omega)), rfl⟩
                                      rcases Bool.eq_false_or_eq_true (c == 93) with g1 | g1
                                      · as_aux_lemma =>
                                          have hb : b8 c = true := by unfold b8; simp [*]
                                          have Hb := hide hb
                                          clear hb
                                          go_wp2_with fail
                                          go_meet
                                          exact ⟨val_bool (by first | (rw [Hb.out]; done) | (rw [Hb.out]; rfl) | (rw [Hb.out]; simp; omega)), rfl⟩
                                      rcases Bool.eq_false_or_eq_true (c == 125) with g2 | g2
                                      · as_aux_lemma =>
                                          have hb : b8 c = true := by unfold b8; simp [*]
                                          have Hb := hide hb
                                          clear hb
                                          go_wp2_with fail
                                          go_meet
                                          exact ⟨val_bool (by first | (rw [Hb.out]; done) | (rw [Hb.out]; rfl) | (rw [Hb.out]; simp; omega)), rfl⟩
                                      rcases Bool.eq_false_or_eq_true (c == 187) with g3 | g3
                                      · as_aux_lemma =>
                                          have hb : b8 c = true := by unfold b8; simp [*]
                                          have Hb := hide hb
                                          clear hb
                                          go_wp2_with fail
                                          go_meet
                                          exact ⟨val_bool (by first | (rw [Hb.out]; done) | (rw [Hb.out]; rfl) | (rw [Hb.out]; simp; omega)), rfl⟩
                                      rcases Bool.eq_false_or_eq_true (c == 44) with g4 | g4
                                      · as_aux_lemma =>
                                          have hb : b8 c = true := by unfold b8; simp [*]
                                          have Hb := hide hb
                                          clear hb
                                          go_wp2_with fail
                                          go_meet
                                          exact ⟨val_bool (by first | (rw [Hb.out]; done) | (rw [Hb.out]; rfl) | (rw [Hb.out]; simp; omega)), rfl⟩
                                      rcases Bool.eq_false_or_eq_true (c == 46) with g5 | g5
                                      · as_aux_lemma =>
                                          have hb : b8 c = true := by unfold b8; simp [*]
                                          have Hb := hide hb
                                          clear hb
                                          go_wp2_with fail
                                          go_meet
                                          exact ⟨val_bool (by first | (rw [Hb.out]; done) | (rw [Hb.out]; rfl) | (rw [Hb.out]; simp; omega)), rfl⟩
                                      rcases Bool.eq_false_or_eq_true (c == 58) with g6 | g6
                                      · as_aux_lemma =>
                                          have hb : b8 c = true := by unfold b8; simp [*]
                                          have Hb := hide hb
                                          clear hb
                                          go_wp2_with fail
                                          go_meet
                                          exact ⟨val_bool (by first | (rw [Hb.out]; done) | (rw [Hb.out]; rfl) | (rw [Hb.out]; simp; omega)), rfl⟩
                                      rcases Bool.eq_false_or_eq_true (c == 59) with g7 | g7
                                      · as_aux_lemma =>
                                          have hb : b8 c = true := by unfold b8; simp [*]
                                          have Hb := hide hb
                                          clear hb
                                          go_wp2_with fail
                                          go_meet
                                          exact ⟨val_bool (by first | (rw [Hb.out]; done) | (rw [Hb.out]; rfl) | (rw [Hb.out]; simp; omega)), rfl⟩
                                      rcases Bool.eq_false_or_eq_true (c == 33) with g8 | g8
                                      · as_aux_lemma =>
                                          have hb : b8 c = true := by unfold b8; simp [*]
                                          have Hb := hide hb
                                          clear hb
                                          go_wp2_with fail
                                          go_meet
                                          exact ⟨val_bool (by first | (rw [Hb.out]; done) | (rw [Hb.out]; rfl) | (rw [Hb.out]; simp; omega)), rfl⟩
                                      rcases Bool.eq_false_or_eq_true (c == 63) with g9 | g9
                                      · as_aux_lemma =>
                                          have hb : b8 c = true := by unfold b8; simp [*]
                                          have Hb := hide hb
                                          clear hb
                                          go_wp2_with fail
                                          go_meet
                                          exact ⟨val_bool (by first | (rw [Hb.out]; done) | (rw [Hb.out]; rfl) | (rw [Hb.out]; simp; omega)), rfl⟩
                                      rcases Bool.eq_false_or_eq_true (c == 8217) with g10 | g10
                                      · as_aux_lemma =>
                                          have hb : b8 c = true := by unfold b8; simp [*]
                                          have Hb := hide hb
                                          clear hb
                                          go_wp2_with fail
                                          go_meet
                                          exact ⟨val_bool (by first | (rw [Hb.out]; done) | (rw [Hb.out]; rfl) | (rw [Hb.out]; simp; omega)), rfl⟩
                                      rcases Bool.eq_false_or_eq_true (c == 8221) with g11 | g11
                                      · as_aux_lemma =>
                                          have hb : b8 c = true := by unfold b8; simp [*]
                                          have Hb := hide hb
                                          clear hb
                                          go_wp2_with fail
                                          go_meet
                                          exact ⟨val_bool (by first | (rw [Hb.out]; done) | (rw [Hb.out]; rfl) | (rw [Hb.out]; simp; omega)), rfl⟩
                                      rcases Bool.eq_false_or_eq_true (c == 8230) with g12 | g12
                                      · as_aux_lemma =>
                                          have hb : b8 c = true := by unfold b8; simp [*]
                                          have Hb := hide hb
                                          clear hb
                                          go_wp2_with fail
                                          go_meet
                                          exact ⟨val_bool (by first | (rw [Hb.out]; done) | (rw [Hb.out]; rfl) | (rw [Hb.out]; simp; omega)), rfl⟩
                                      rcases Bool.eq_false_or_eq_true (c == 12289) with g13 | g13
                                      · as_aux_lemma =>
                                          have hb : b8 c = true := by unfold b8; simp [*]
                                          have Hb := hide hb
                                          clear hb
                                          go_wp2_with fail
                                          go_meet
                                          exact ⟨val_bool (by first | (rw [Hb.out]; done) | (rw [Hb.out]; rfl) | (rw [Hb.out]; simp; omega)), rfl⟩
                                      rcases Bool.eq_false_or_eq_true (c == 12290) with g14 | g14
                                      · as_aux_lemma =>
                                          have hb : b8 c = true := by unfold b8; simp [*]
                                          have Hb := hide hb
                                          clear hb
                                          go_wp2_with fail
                                          go_meet
                                          exact ⟨val_bool (by first | (rw [Hb.out]; done) | (rw [Hb.out]; rfl) | (rw [Hb.out]; simp; omega)), rfl⟩
                                      rcases Bool.eq_false_or_eq_true (c == 12301) with g15 | g15
                                      · as_aux_lemma =>
                                          have hb : b8 c = true := by unfold b8; simp [*]
                                          have Hb := hide hb
                                          clear hb
                                          go_wp2_with fail
                                          go_meet
                                          exact ⟨val_bool (by first | (rw [Hb.out]; done) | (rw [Hb.out]; rfl) | (rw [Hb.out]; simp; omega)), rfl⟩
                                      have hb : b8 c = false := by unfold b8; simp [*]
                                      have Hb := hide hb
                                      clear hb
                                      go_wp2_with fail
                                      go_meet
                                      exact ⟨val_bool (by first | (rw [Hb.out]; done) | (rw [Hb.out]; rfl) | (rw [Hb.out]; simp; omega)), rfl⟩
                                  case rest =>
                                    as_aux_lemma =>
                                      obtain ⟨rfl, rfl⟩ := hcut
                                      rcases Bool.eq_false_or_eq_true (b8 c) with q8 | q8
                                      · as_aux_lemma =>
                                        have hr : cls c = 8 := by unfold cls; simp [(H0.out), (H1.out), (H2.out), (H3.out), (H4.out), (H5.out), (H6.out), (H7.out), q8]
                                        have Hr := hide hr
                                        rw [q8]
                                        clear hr q8
                                        go_wp2_with fail
                                        go_ret
                                        exact ⟨ret_int Hr.out.symm, Below.refl _ _⟩
                                      have H8 := hide q8
                                      rw [q8]
                                      clear q8
                                      go_upto_region 19 with fail
                                      go_cut [150] (fun v wc => v = .bool (b9 c) ∧ w = wc)
                                      case first =>
                                        as_aux_lemma =>
                                          rcases Bool.eq_false_or_eq_true (c == 65532) with g0 | g0
                                          · as_aux_lemma =>
                                              have hb : b9 c = true := by unfold b9; simp [*]
                                              have Hb := hide hb
                                              clear hb
                                              go_wp2_with fail
                                              go_meet
                                              exact ⟨val_bool (by first | (rw [Hb.out]; done) | (rw [Hb.out]; rfl) | (rw [Hb.out]; simp; omega)), rfl⟩
                                          have hg : (c < 11904) ∨ (11904 ≤ c ∧ c ≤ 42191) ∨ (42191 < c ∧ c < 44032) ∨ (44032 ≤ c ∧ c ≤ 55203) ∨ (55203 < c ∧ c < 63744) ∨ (63744 ≤ c ∧ c ≤ 64255) ∨ (64255 < c ∧ c < 65280) ∨ (65280 ≤ c ∧ c ≤ 65376) ∨ (65376 < c ∧ c < 131072) ∨ (131072 ≤ c ∧ c ≤ 262141) ∨ (262141 < c) := by omega
                                          rcases hg with h1 | ⟨h1, h2⟩ | ⟨h1, h2⟩ | ⟨h1, h2⟩ | ⟨h1, h2⟩ | ⟨h1, h2⟩ | ⟨h1, h2⟩ | ⟨h1, h2⟩ | ⟨h1, h2⟩ | ⟨h1, h2⟩ | h1
                                          · as_aux_lemma =>
                                              have hb : b9 c = false := by unfold b9; simp only [g0, Bool.false_or]; simp; omega
                                              have Hb := hide hb
                                              clear hb
                                              go_wp2_with fail
                                              go_meet
                                              exact ⟨val_bool (by first | (rw [Hb.out]; done) | (rw [Hb.out]; rfl) | (rw [Hb.out]; simp; omega)), rfl⟩
                                          · as_aux_lemma =>
                                              have hb : b9 c = true := by unfold b9; simp only [g0, Bool.false_or]; simp; omega
                                              have Hb := hide hb
                                              clear hb
                                              go_wp2_with fail
                                              go_meet
                                              exact ⟨val_bool (by first | (rw [Hb.out]; done) | (rw [Hb.out]; rfl) | (rw [Hb.out]; simp; omega)), rfl⟩
                                          · as_aux_lemma =>
                                              have hb : b9 c = false := by unfold b9; simp only [g0, Bool.false_or]; simp; omega
                                              have Hb := hide hb
                                              clear hb
                                              go_wp2_with fail
                                              go_meet
                                              exact ⟨val_bool (by first | (rw [Hb.out]; done) | (rw [Hb.out]; rfl) | (rw [Hb.out]; simp; omega)), rfl⟩
                                          · as_aux_lemma =>
                                              have hb : b9 c = true := by unfold b9; simp only [g0, Bool.false_or]; simp; omega
                                              have Hb := hide hb
                                              clear hb
                                              go_wp2_with fail
                                              go_meet
                                              exact ⟨val_bool (by first | (rw [Hb.out]; done) | (rw [Hb.out]; rfl) | (rw [Hb.out]; simp; omega)), rfl⟩
                                          · as_aux_lemma =>
                                              have hb : b9 c = false := by unfold b9; simp only [g0, Bool.false_or]; simp; omega
                                              have Hb := hide hb
                                              clear hb
                                              go_wp2_with fail
                                              go_meet
                                              exact ⟨val_bool (by first | (rw [Hb.out]; done) | (rw [Hb.out]; rfl) | (rw [Hb.out]; simp; omega)), rfl⟩
                                          · as_aux_lemma =>
                                              have hb : b9 c = true := by unfold b9; simp only [g0, Bool.false_or]; simp; omega
                                              have Hb := hide hb
                                              clear hb
                                              go_wp2_with fail
                                              go_meet
                                              exact ⟨val_bool (by first | (rw [Hb.out]; done) | (rw [Hb.out]; rfl) | (rw [Hb.out]; simp; omega)), rfl⟩
                                          · as_aux_lemma =>
                                              have hb : b9 c = false := by unfold b9; simp only [g0, Bool.false_or]; simp; omega
                                              have Hb := hide hb
                                              clear hb
                                              go_wp2_with fail
                                              go_meet
                                              exact ⟨val_bool (by first | (rw [Hb.out]; done) | (rw [Hb.out]; rfl) | (rw [Hb.out]; simp; omega)), rfl⟩
                                          · as_aux_lemma =>
                                              have hb : b9 c = true := by unfold b9; simp only [g0, Bool.false_or]; simp; omega
                                              have Hb := hide hb
                                              clear hb
                                              go_wp2_with fail
                                              go_meet
                                              exact ⟨val_bool (by first | (rw [Hb.out]; done) | (rw [Hb.out]; rfl) | (rw [Hb.out]; simp; omega)), rfl⟩
                                          · as_aux_lemma =>
                                              have hb : b9 c = false := by unfold b9; simp only [g0, Bool.false_or]; simp; omega
                                              have Hb := hide hb
                                              clear hb
                                              go_wp2_with fail
                                              go_meet
                                              exact ⟨val_bool (by first | (rw [Hb.out]; done) | (rw [Hb.out]; rfl) | (rw [Hb.out]; simp; omega)), rfl⟩
                                          · as_aux_lemma =>
                                              have hb : b9 c = true := by unfold b9; simp only [g0, Bool.false_or]; simp; omega
                                              have Hb := hide hb
                                              clear hb
                                              go_wp2_with fail
                                              go_meet
                                              exact ⟨val_bool (by first | (rw [Hb.out]; done) | (rw [Hb.out]; rfl) | (rw [Hb.out]; simp; omega)), rfl⟩
                                          · as_aux_lemma =>
                                              have hb : b9 c = false := by unfold b9; simp only [g0, Bool.false_or]; simp; omega
                                              have Hb := hide hb
                                              clear hb
                                              go_wp2_with fail
                                              go_meet
                                              exact ⟨val_bool (by first | (rw [Hb.out]; done) | (rw [Hb.out]; rfl) | (rw [Hb.out]; simp; omega)), rfl⟩
                                      case rest =>
                                        as_aux_lemma =>
                                          obtain ⟨rfl, rfl⟩ := hcut
                                          rcases Bool.eq_false_or_eq_true (b9 c) with q9 | q9
                                          · as_aux_lemma =>
                                            have hr : cls c = 9 := by unfold cls; simp [(H0.out), (H1.out), (H2.out), (H3.out), (H4.out), (H5.out), (H6.out), (H7.out), (H8.out), q9]
                                            have Hr := hide hr
                                            rw [q9]
                                            clear hr q9
                                            go_wp2_with fail
                                            go_ret
                                            exact ⟨ret_int Hr.out.symm, Below.refl _ _⟩
                                          have H9 := hide q9
                                          rw [q9]
                                          clear q9
                                          go_upto_region 21 with fail
                                          go_cut [193] (fun v wc => v = .bool (b10 c) ∧ Below w.heap.size w wc)
                                          case first =>
                                            as_aux_lemma =>
                                              rcases Bool.eq_false_or_eq_true (c == 8205) with g0 | g0
                                              · as_aux_lemma =>
                                                  have hb : b10 c = true := by unfold b10; simp [*]
                                                  have Hb := hide hb
                                                  clear hb
                                                  go_wp2_with fail
                                                  go_meet
                                                  exact ⟨val_bool (by first | (rw [Hb.out]; done) | (rw [Hb.out]; rfl) | (rw [Hb.out]; simp; omega)), Below.refl _ _⟩
                                              have hb : b10 c = Mtr.mark c := by unfold b10; simp [*]
                                              have Hb := hide hb
                                              clear hb
                                              go_wp2_with fail
                                              refine Hm.out.mono ?_
                                              rintro e w2 ⟨rfl, hb2⟩
                                              go_wp2_with fail
                                              go_meet
                                              exact ⟨val_bool (by first | (rw [Hb.out]; done) | (rw [Hb.out]; rfl) | (rw [Hb.out]; simp; omega)), hb2⟩
                                          case rest =>
                                            as_aux_lemma =>
                                              obtain ⟨rfl, hbl⟩ := hcut
                                              rcases Bool.eq_false_or_eq_true (b10 c) with q10 | q10
                                              · as_aux_lemma =>
                                                have hr : cls c = 10 := by unfold cls; simp [(H0.out), (H1.out), (H2.out), (H3.out), (H4.out), (H5.out), (H6.out), (H7.out), (H8.out), (H9.out), q10]
                                                have Hr := hide hr
                                                rw [q10]
                                                clear hr q10
                                                go_wp2_with fail
                                                go_ret
                                                exact ⟨ret_int Hr.out.symm, hbl⟩
                                              · have hr : cls c = 0 := by unfold cls; simp [(H0.out), (H1.out), (H2.out), (H3.out), (H4.out), (H5.out), (H6.out), (H7.out), (H8.out), (H9.out), q10]
                                                have Hr := hide hr
                                                rw [q10]
                                                clear hr q10
                                                go_wp2_with fail
                                                go_ret
                                                exact ⟨ret_int Hr.out.symm, hbl⟩
end Go.Proofs.YtdhhkcboejhoaaaDoor.Bre
