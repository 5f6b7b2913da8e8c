/- The contract of (*seq).neutral. Printed by bdneutgen.py. -/
import Derived.Test.YtdikfldogmbeaaaDoorBdEnds
namespace Go.Proofs.YtdikfldogmbeaaaDoor.Bd
open Go.RowKit Go.Frm

theorem side_bd {l x : Int} (h : x = side l) : 0 ≤ x ∧ x ≤ 1 := by rw [h]; unfold side; split <;> omega
section
variable {w w' : World} {s G ga ca gw : Nat} {q : Sq} {At : Option Addr} {ct n gc gl : Nat} {base : Int} {go : Nat} {mt : Value} {C : Nat → Int}
set_option maxRecDepth 100000 in
set_option maxHeartbeats 8000000 in
theorem neutral_seq_ok (h : QM w s G ga ca gw q At ct n gc gl base go mt C) (hm : q.n ≤ 100000) (hlv : 0 ≤ q.lv ∧ q.lv ≤ 1000) :
    Calls Tryd.prog 24 #[.pointer (some ⟨s, 0, none⟩)] w fun e w' => e = .returned (.tuple #[]) ∧ BI w' gc n (q.neutral q.n 0 C) ∧ Chg (Is gc) w w' := by
  obtain ⟨D0, HD0⟩ : ∃ D, Hid (D = q.neutral q.n 0 C) := ⟨_, rfl⟩
  rw [← HD0.out]
  have H0 := hide h
  have s1 := h.s1
  have hs := h.sb.lt
  clear h
  go_enter Tryd.func24, Tryd.ntmps24
  go_wp2_with fail
  go_loopw [2] (fun i wr => ∃ (k f : Nat) (E : Nat → Int), k ≤ q.n ∧ q.n - k ≤ f ∧ i = .int .i64 k ∧ Hid (D0 = q.neutral f k E) ∧ BI wr gc n E ∧ Chg (Is gc) w wr) (fun i _ => q.n - (intOf i).toNat)
  case atStart => exact ⟨0, q.n, C, Nat.zero_le _, by omega, rfl, HD0, H0.out.cl, Chg.refl _ _⟩
  case round =>
    clear s1
    obtain ⟨k, f, E, hk, hf, rfl, HE, hbi, hgr⟩ := hrel
    have Hq := hide (H0.out.to hbi hgr)
    have s1 := Hq.out.s1
    have hsr := Hq.out.sb.lt
    by_cases hlt : k < q.n
    · cases f with
      | zero => exact absurd hf (by omega)
      | succ f =>
        have hstep := hide (HE.out.trans (show q.neutral (f + 1) k E = if neut (q.get E k) = true then q.neutral f (q.upTo neut E (q.n - k) k) (q.fill (if 0 ≤ lside (q.pre E k) ∧ lside (q.pre E k) = lside (q.get E (q.upTo neut E (q.n - k) k)) then lside (q.pre E k) else side q.lv) (q.upTo neut E (q.n - k) k - k) k E) else q.neutral f (k + 1) E by
          show (if q.n ≤ k then E else _) = _
          rw [if_neg (by omega)]))
        have lim : k ≤ 100000 := by omega
        obtain ⟨v, Hv⟩ : ∃ v, Hid (v = q.get E k) := ⟨_, rfl⟩
        have Hget := hide (get_ok Hq.out k k rfl)
        rw [← Hv.out] at Hget
        have Hnv := hide (neutral_ok v)
        cases h5 : neut v with
        | false =>
          rw [h5] at Hnv
          have hst : Hid (D0 = q.neutral f (k + 1) E) := hide (hstep.out.trans (by rw [← Hv.out, h5]; rfl))
          go_wp2_with (first | (go_at_call 36; refine Hget.out.mono ?_; rintro e9 w9 ⟨rfl, d1, rfl⟩) | (go_at_call 43; refine (Hnv.out _).mono ?_; rintro e9 w9 ⟨rfl, rfl⟩))
          go_roundw
          case rel => exact ⟨k + 1, f, E, by omega, by omega, by go_num, hst, hbi, hgr.drewN d1⟩
          case measure => simp [intOf]; omega
        | true =>
          rw [h5] at Hnv
          obtain ⟨tz, Htz⟩ : ∃ x, Hid (x = q.upTo neut E (q.n - k) k) := ⟨_, rfl⟩
          rw [← Htz.out] at hstep
          have hup := hide (show tz = q.upTo neut E (q.n - (k + 1)) (k + 1) by
            rw [Htz.out, show q.n - k = (q.n - (k + 1)) + 1 by omega]
            show (if neut (q.get E k) = true then _ else _) = _
            rw [← Hv.out, h5, if_pos rfl])
          have hb := upTo_bd q neut E (q.n - (k + 1)) (k + 1)
          rw [← hup.out] at hb
          have hb1 : k + 1 ≤ tz := hb.1
          have hb2 : tz ≤ q.n := by omega
          clear hb
          go_upto_block 2 with (first | (go_at_call 36; refine Hget.out.mono ?_; rintro e9 w9 ⟨rfl, d1, rfl⟩) | (go_at_call 43; refine (Hnv.out _).mono ?_; rintro e9 w9 ⟨rfl, rfl⟩))
          go_cut [3] (fun v wc => v = .int .i64 tz ∧ ∃ d, wc = wr.drewN d)
          case first => as_aux_lemma =>
            go_wp2_with fail
            go_loopw [3] (fun a wx => ∃ t d : Nat, k ≤ t ∧ t ≤ q.n ∧ a = .int .i64 t ∧ Hid (tz = q.upTo neut E (q.n - t) t) ∧ wx = wr.drewN d) (fun a _ => q.n - (intOf a).toNat)
            case atStart => exact ⟨k, d1, Nat.le_refl _, by omega, rfl, Htz, rfl⟩
            case round =>
              obtain ⟨t, d, ht1, ht2, rfl, HT, rfl⟩ := hrel
              have s1d : (wr.drewN d).cell? ⟨s, 1, none⟩ = some (.slice (some ⟨ga, 0, none⟩) q.n ca) := s1
              have hsd : s < (wr.drewN d).heap.size := hsr
              by_cases htl : t < q.n
              · have Hg := hide (get_ok (Hq.out.drewN d) t t rfl)
                have hT := hide (HT.out.trans (show q.upTo neut E (q.n - t) t = if neut (q.get E t) = true then q.upTo neut E (q.n - (t + 1)) (t + 1) else t by
                  rw [show q.n - t = (q.n - (t + 1)) + 1 by omega]
                  rfl))
                obtain ⟨u, Hu⟩ : ∃ v, Hid (v = q.get E t) := ⟨_, rfl⟩
                rw [← Hu.out] at Hg hT
                have limt : t ≤ 100000 := by omega
                have Hnu := hide (neutral_ok u)
                cases h5' : neut u with
                | true =>
                  rw [h5'] at Hnu
                  have hT2 : Hid (tz = q.upTo neut E (q.n - (t + 1)) (t + 1)) := hide (hT.out.trans (by rw [h5']; rfl))
                  go_wp2_with (first | (go_at_call 36; refine Hg.out.mono ?_; rintro e9 w9 ⟨rfl, d2, rfl⟩) | (go_at_call 43; refine (Hnu.out _).mono ?_; rintro e9 w9 ⟨rfl, rfl⟩))
                  go_roundw
                  case rel => exact ⟨t + 1, d + d2, by omega, by omega, by go_num, hT2, by first | rfl | trivial⟩
                  case measure => simp [intOf]; omega
                | false =>
                  rw [h5'] at Hnu
                  have hT2 : Hid (tz = t) := hide (hT.out.trans (by rw [h5']; rfl))
                  go_wp2_with (first | (go_at_call 36; refine Hg.out.mono ?_; rintro e9 w9 ⟨rfl, d2, rfl⟩) | (go_at_call 43; refine (Hnu.out _).mono ?_; rintro e9 w9 ⟨rfl, rfl⟩))
                  go_meet
                  exact ⟨by rw [hT2.out], d + d2, by first | rfl | trivial⟩
              · obtain rfl : t = q.n := by omega
                have hT2 : Hid (tz = q.n) := hide (by rw [HT.out, Nat.sub_self]; rfl)
                go_wp2_with fail
                go_meet
                exact ⟨by rw [hT2.out], d, by first | rfl | trivial⟩
          case rest =>
            obtain ⟨rfl, d, rfl⟩ := hcut
            obtain ⟨ps, Hps⟩ : ∃ x, Hid (x = lside (q.pre E k)) := ⟨_, rfl⟩
            obtain ⟨es, Hes⟩ : ∃ x, Hid (x = lside (q.get E tz)) := ⟨_, rfl⟩
            obtain ⟨sd, Hsd⟩ : ∃ x, Hid (x = side q.lv) := ⟨_, rfl⟩
            rw [← Hps.out, ← Hes.out, ← Hsd.out] at hstep
            have s1d : (wr.drewN d).cell? ⟨s, 1, none⟩ = some (.slice (some ⟨ga, 0, none⟩) q.n ca) := s1
            have s3d : (wr.drewN d).cell? ⟨s, 3, none⟩ = some (.int .i64 q.lv) := Hq.out.s3
            have hsd : s < (wr.drewN d).heap.size := hsr
            have Hside := hide (side_ok q.lv hlv.1 hlv.2)
            rw [← Hsd.out] at Hside
            have Hgp := hide (fun d => get_pre (Hq.out.drewN d) k (by omega) ((k : Int) - 1) rfl)
            have Hgt := hide (fun d => get_ok (Hq.out.drewN d) tz tz rfl)
            have Hlp := hide (letterSide_ok (q.pre E k))
            have Hlt := hide (letterSide_ok (q.get E tz))
            rw [← Hps.out] at Hlp
            rw [← Hes.out] at Hlt
            generalize q.pre E k = vp at *
            generalize q.get E tz = vt at *
            have lims := side_bd Hsd.out
            go_upto_region 9 with (first
              | (go_at_call 40; refine (Hside.out _).mono ?_; rintro e9 w9 ⟨rfl, rfl⟩)
              | (go_at_call 36; refine (Hgp.out _).mono ?_; rintro e9 w9 ⟨rfl, d3, rfl⟩)
              | (go_at_call 42; refine (Hlp.out _).mono ?_; rintro e9 w9 ⟨rfl, rfl⟩))
            obtain ⟨tb, Htb⟩ : ∃ x : Bool, Hid (x = (decide (0 ≤ ps) && ps == es)) := ⟨_, rfl⟩
            have hsd3 : s < (wr.drewN (d + d3)).heap.size := hsr
            go_cut [56] (fun v wc => v = .bool tb ∧ ∃ d, wc = wr.drewN d)
            case first => as_aux_lemma =>
              by_cases hp0 : 0 ≤ ps
              · have hd0 : decide (0 ≤ ps) = true := decide_eq_true hp0
                have hx : Hid (tb = (ps == es)) := hide (by rw [Htb.out, hd0]; rfl)
                clear Htb
                go_wp2_with (first
                  | (go_at_call 36; refine (Hgt.out _).mono ?_; rintro e9 w9 ⟨rfl, d4, rfl⟩)
                  | (go_at_call 42; refine (Hlt.out _).mono ?_; rintro e9 w9 ⟨rfl, rfl⟩))
                go_meet
                exact ⟨by rw [hx.out], _, rfl⟩
              · have hd0 : decide (0 ≤ ps) = false := decide_eq_false hp0
                have hx : Hid (tb = false) := hide (by rw [Htb.out, hd0]; rfl)
                clear Htb
                go_wp2_with fail
                go_meet
                exact ⟨by rw [hx.out], _, rfl⟩
            case rest =>
              obtain ⟨rfl, d2, rfl⟩ := hcut
              obtain ⟨cl, Hcl⟩ : ∃ x, Hid (x = if 0 ≤ ps ∧ ps = es then ps else sd) := ⟨_, rfl⟩
              rw [← Hcl.out] at hstep
              have Hclb : Hid (cl = if tb = true then ps else sd) := hide (by
                rw [Hcl.out, Htb.out]
                by_cases h : 0 ≤ ps ∧ ps = es
                · rw [if_pos h, if_pos (by simp [h.1, h.2]; rw [← h.2]; exact h.1)]
                · rw [if_neg h, if_neg (by simpa using h)])
              go_upto_if 56 with fail
              go_cut [4] (fun v wd => v = .int .i64 cl ∧ wd = wr.drewN d2)
              case first => as_aux_lemma =>
                cases tb with
                | true =>
                  have hx : Hid (cl = ps) := hide Hclb.out
                  clear Hclb Hcl
                  go_wp2_with fail
                  go_meet
                  exact ⟨by rw [hx.out], rfl⟩
                | false =>
                  have hx : Hid (cl = sd) := hide Hclb.out
                  clear Hclb Hcl
                  go_wp2_with fail
                  go_meet
                  exact ⟨by rw [hx.out], rfl⟩
              case rest =>
                obtain ⟨rfl, rfl⟩ := hcut
                obtain ⟨F, HF⟩ : ∃ F, Hid (F = q.fill cl (tz - k) k E) := ⟨_, rfl⟩
                have hst : Hid (D0 = q.neutral f tz F) := hide (hstep.out.trans (by rw [← Hv.out, h5, HF.out]; rfl))
                go_upto_block 4 with fail
                go_cut [] (fun wc => BI wc gc n F ∧ Chg (Is gc) w wc)
                case first => as_aux_lemma =>
                  go_wp2_with fail
                  go_loopw [6] (fun a wx => ∃ (t : Nat) (X : Nat → Int), k ≤ t ∧ t ≤ tz ∧ a = .int .i64 t ∧ Hid (F = q.fill cl (tz - t) t X) ∧ BI wx gc n X ∧ Chg (Is gc) w wx) (fun a _ => tz - (intOf a).toNat)
                  case atStart => exact ⟨k, E, Nat.le_refl _, by omega, rfl, HF, hbi, hgr.drewN d2⟩
                  case round =>
                    obtain ⟨t, X, ht1, ht2, rfl, HX, hbx, hgx⟩ := hrel
                    by_cases htl : t < tz
                    · have hset := set_ok (H0.out.to hbx hgx) (k := t) (by omega) t cl rfl
                      have Hset := hide hset
                      have hsx := (H0.out.to hbx hgx).sb.lt
                      have hX2 : Hid (F = q.fill cl (tz - (t + 1)) (t + 1) (q.set X t cl)) := hide (HX.out.trans (by rw [show tz - t = (tz - (t + 1)) + 1 by omega]; rfl))
                      have limt : t ≤ 100000 := by omega
                      clear hset
                      go_wp2_with fail
                      refine Hset.out.mono ?_
                      rintro e9 w9 ⟨rfl, hb9, hg9⟩
                      go_wp2_with fail
                      go_roundw
                      case rel => exact ⟨t + 1, _, by omega, by omega, by go_num, hX2, hb9, hgx.trans hg9⟩
                      case measure => simp [intOf]; omega
                    · obtain rfl : t = tz := by omega
                      have hF : Hid (F = X) := hide (by rw [HX.out, Nat.sub_self]; rfl)
                      go_wp2_with fail
                      go_meet
                      exact ⟨by rw [hF.out]; exact hbx, hgx⟩
                case rest =>
                  obtain ⟨hbF, hgF⟩ := hcut
                  go_wp2_with fail
                  go_roundw
                  case rel => exact ⟨tz, f, F, hb2, by omega, by go_num, hst, hbF, hgF⟩
                  case measure => simp [intOf]; omega
    · obtain rfl : k = q.n := by omega
      have hD : Hid (D0 = E) := hide (HE.out.trans (by
        cases f with
        | zero => rfl
        | succ f =>
          show (if q.n ≤ q.n then E else _) = E
          rw [if_pos (Nat.le_refl _)]))
      go_wp2_with fail
      refine bodyPost_end (results_none rfl _ _ _) rfl ?_
      exact ⟨rfl, by rw [hD.out]; exact hbi, hgr⟩
end
end Go.Proofs.YtdikfldogmbeaaaDoor.Bd
