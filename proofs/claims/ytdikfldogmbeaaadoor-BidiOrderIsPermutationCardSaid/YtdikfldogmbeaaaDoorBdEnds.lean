/- The contract of (*seq).ends. Printed by bdendsgen.py. -/
import Derived.Test.YtdikfldogmbeaaaDoorBdSeq
import Derived.Deep.CutBlock
namespace Go.Proofs.YtdikfldogmbeaaaDoor.Bd
open Go.RowKit Go.Frm

theorem rounds_lim (f : Nat → (Nat → Int) → Nat → Int) (k : Nat) (C : Nat → Int) : rounds f (k + 1) C = f k (rounds f k C) := rfl
theorem upTo_bd (q : Sq) (T : Int → Bool) (C : Nat → Int) : ∀ r k, k ≤ q.upTo T C r k ∧ q.upTo T C r k ≤ k + r
  | 0, k => ⟨Nat.le_refl _, Nat.le_refl _⟩
  | r + 1, k => by
    unfold Sq.upTo
    split
    · have := upTo_bd q T C r (k + 1)
      omega
    · omega
section
variable {w w' : World} {s G ga ca gw : Nat} {q : Sq} {At : Option Addr} {ct n gc gl : Nat} {base : Int} {go : Nat} {mt : Value} {C : Nat → Int}
set_option maxRecDepth 100000 in
set_option maxHeartbeats 8000000 in
theorem ends_ok (h : QM w s G ga ca gw q At ct n gc gl base go mt C) (hm : q.n ≤ 100000) :
    Calls Tryd.prog 39 #[.pointer (some ⟨s, 0, none⟩)] w fun e w' => e = .returned (.tuple #[]) ∧ BI w' gc n (q.endsAll C) ∧ Chg (Is gc) w w' := by
  obtain ⟨D0, HD0⟩ : ∃ D, Hid (D = q.ends q.n 0 C) := ⟨_, rfl⟩
  have HR : Hid (q.endsAll C = rounds q.e2 q.n D0) := hide (by rw [HD0.out]; rfl)
  have H0 := hide h
  have s1 := h.s1
  have hs := h.sb.lt
  clear h
  go_enter Tryd.func39, Tryd.ntmps39
  go_upto_block 0 with fail
  go_cut [] (fun wc => BI wc gc n D0 ∧ Chg (Is gc) w wc)
  case first => as_aux_lemma =>
    go_wp2_with fail
    go_loopw [2] (fun i wr => ∃ (k f : Nat) (E : Nat → Int), k ≤ q.n ∧ q.n - k ≤ f ∧ i = .int .i64 k ∧ Hid (D0 = q.ends f k E) ∧ BI wr gc n E ∧ Chg (Is gc) w wr) (fun i _ => q.n - (intOf i).toNat)
    case atStart => exact ⟨0, q.n, C, Nat.zero_le _, by omega, rfl, HD0, H0.out.cl, Chg.refl _ _⟩
    case round =>
      clear s1
      obtain ⟨k, f, E, hk, hf, rfl, HE, hbi, hgr⟩ := hrel
      have Hq := hide (H0.out.to hbi hgr)
      have s1 := Hq.out.s1
      have hsr := Hq.out.sb.lt
      by_cases hlt : k < q.n
      · cases f with
        | zero => exact absurd hf (by omega)
        | succ f =>
          have hstep := hide (HE.out.trans (show q.ends (f + 1) k E = if (q.get E k == 5) = true then q.ends f (q.upTo (· == 5) E (q.n - k) k) (if ((decide (0 < k) && q.pre E k == 3) || (decide (q.upTo (· == 5) E (q.n - k) k < q.n) && q.get E (q.upTo (· == 5) E (q.n - k) k) == 3)) = true then q.fill 3 (q.upTo (· == 5) E (q.n - k) k - k) k E else E) else q.ends f (k + 1) E by
            show (if q.n ≤ k then E else _) = _
            rw [if_neg (by omega)]))
          have lim : k ≤ 100000 := by omega
          obtain ⟨v, Hv⟩ : ∃ v, Hid (v = q.get E k) := ⟨_, rfl⟩
          have Hget := hide (get_ok Hq.out k k rfl)
          rw [← Hv.out] at Hget
          cases h5 : (v == 5) with
          | false =>
            have hn5 : (v != 5) = true := by rw [bne, h5]; rfl
            have hst : Hid (D0 = q.ends f (k + 1) E) := hide (hstep.out.trans (by rw [← Hv.out, h5]; rfl))
            go_wp2_with (go_at_call 36; refine Hget.out.mono ?_; rintro e9 w9 ⟨rfl, d1, rfl⟩)
            go_roundw
            case rel => exact ⟨k + 1, f, E, by omega, by omega, by go_num, hst, hbi, hgr.drewN d1⟩
            case measure => simp [intOf]; omega
          | true =>
            have hn5 : (v != 5) = false := by rw [bne, h5]; rfl
            obtain ⟨tz, Htz⟩ : ∃ x, Hid (x = q.upTo (· == 5) E (q.n - k) k) := ⟨_, rfl⟩
            rw [← Htz.out] at hstep
            have hup := hide (show tz = q.upTo (· == 5) E (q.n - (k + 1)) (k + 1) by
              rw [Htz.out, show q.n - k = (q.n - (k + 1)) + 1 by omega]
              show (if (q.get E k == 5) = true then _ else _) = _
              rw [← Hv.out, h5, if_pos rfl])
            have hb := upTo_bd q (· == 5) E (q.n - (k + 1)) (k + 1)
            rw [← hup.out] at hb
            have hb1 : k + 1 ≤ tz := hb.1
            have hb2 : tz ≤ q.n := by omega
            clear hb
            go_upto_block 2 with (go_at_call 36; refine Hget.out.mono ?_; rintro e9 w9 ⟨rfl, d1, rfl⟩)
            go_cut [3] (fun v wc => v = .int .i64 tz ∧ ∃ d, wc = wr.drewN d)
            case first => as_aux_lemma =>
              go_wp2_with fail
              go_loopw [3] (fun a wx => ∃ t d : Nat, k ≤ t ∧ t ≤ q.n ∧ a = .int .i64 t ∧ Hid (tz = q.upTo (· == 5) E (q.n - t) t) ∧ wx = wr.drewN d) (fun a _ => q.n - (intOf a).toNat)
              case atStart => exact ⟨k, d1, Nat.le_refl _, by omega, rfl, Htz, rfl⟩
              case round =>
                obtain ⟨t, d, ht1, ht2, rfl, HT, rfl⟩ := hrel
                have s1d : (wr.drewN d).cell? ⟨s, 1, none⟩ = some (.slice (some ⟨ga, 0, none⟩) q.n ca) := s1
                have hsd : s < (wr.drewN d).heap.size := hsr
                by_cases htl : t < q.n
                · have Hg := hide (get_ok (Hq.out.drewN d) t t rfl)
                  have hT := hide (HT.out.trans (show q.upTo (· == 5) E (q.n - t) t = if (q.get E t == 5) = true then q.upTo (· == 5) E (q.n - (t + 1)) (t + 1) else t by
                    rw [show q.n - t = (q.n - (t + 1)) + 1 by omega]
                    rfl))
                  obtain ⟨u, Hu⟩ : ∃ v, Hid (v = q.get E t) := ⟨_, rfl⟩
                  rw [← Hu.out] at Hg hT
                  have limt : t ≤ 100000 := by omega
                  cases h5' : (u == 5) with
                  | true =>
                    have hT2 : Hid (tz = q.upTo (· == 5) E (q.n - (t + 1)) (t + 1)) := hide (hT.out.trans (by rw [h5']; rfl))
                    go_wp2_with (go_at_call 36; refine Hg.out.mono ?_; rintro e9 w9 ⟨rfl, d2, rfl⟩)
                    go_roundw
                    case rel => exact ⟨t + 1, d + d2, by omega, by omega, by go_num, hT2, by first | rfl | trivial⟩
                    case measure => simp [intOf]; omega
                  | false =>
                    have hT2 : Hid (tz = t) := hide (hT.out.trans (by rw [h5']; rfl))
                    go_wp2_with (go_at_call 36; refine Hg.out.mono ?_; rintro e9 w9 ⟨rfl, d2, rfl⟩)
                    go_meet
                    exact ⟨by rw [hT2.out], d + d2, by first | rfl | trivial⟩
                · obtain rfl : t = q.n := by omega
                  have hT2 : Hid (tz = q.n) := hide (by rw [HT.out, Nat.sub_self]; rfl)
                  go_wp2_with fail
                  go_meet
                  exact ⟨by rw [hT2.out], d, by first | rfl | trivial⟩
            case rest =>
              obtain ⟨rfl, d, rfl⟩ := hcut
              obtain ⟨tb, Htb⟩ : ∃ x : Bool, Hid (x = ((decide (0 < k) && q.pre E k == 3) || (decide (tz < q.n) && q.get E tz == 3))) := ⟨_, rfl⟩
              have s1d : (wr.drewN d).cell? ⟨s, 1, none⟩ = some (.slice (some ⟨ga, 0, none⟩) q.n ca) := s1
              have hsd : s < (wr.drewN d).heap.size := hsr
              rw [← Htb.out] at hstep
              go_upto_region 7 with fail
              go_cut [59] (fun v wc => v = .bool tb ∧ ∃ d, wc = wr.drewN d)
              case first => as_aux_lemma =>
                have Hgp := hide (fun d => get_pre (Hq.out.drewN d) k (by omega) ((k : Int) - 1) rfl)
                have Hgt := hide (fun d => get_ok (Hq.out.drewN d) tz tz rfl)
                obtain ⟨vp, Hvp⟩ : ∃ x, Hid (x = q.pre E k) := ⟨_, rfl⟩
                obtain ⟨vt, Hvt⟩ : ∃ x, Hid (x = q.get E tz) := ⟨_, rfl⟩
                rw [← Hvp.out] at Hgp Htb
                rw [← Hvt.out] at Hgt Htb
                by_cases hk0 : 0 < k
                · have hd1 : decide (0 < k) = true := decide_eq_true hk0
                  have hd0 : decide (0 < (k : Int)) = true := by simp; omega
                  cases h3 : (vp == 3) with
                  | true =>
                    have hx : Hid (tb = true) := hide (by rw [Htb.out, hd1, h3]; rfl)
                    clear Htb
                    go_wp2_with (go_at_call 36; with_reducible refine (Hgp.out _).mono ?_; rintro e9 w9 ⟨rfl, d3, rfl⟩)
                    go_meet
                    exact ⟨by rw [hx.out], _, rfl⟩
                  | false =>
                    by_cases htn : tz < q.n
                    · have hd2 : decide (tz < q.n) = true := decide_eq_true htn
                      have hd3 : decide ((tz : Int) < (q.n : Int)) = true := by simp; omega
                      have hx : Hid (tb = (vt == 3)) := hide (by rw [Htb.out, hd1, h3, hd2]; rfl)
                      clear Htb
                      go_wp2_with (first
                        | (go_at_call 36; with_reducible refine (Hgp.out _).mono ?_; rintro e9 w9 ⟨rfl, d3, rfl⟩)
                        | (go_at_call 36; with_reducible refine (Hgt.out _).mono ?_; rintro e9 w9 ⟨rfl, d4, rfl⟩))
                      go_meet
                      exact ⟨by rw [hx.out], _, rfl⟩
                    · have hd2 : decide (tz < q.n) = false := decide_eq_false htn
                      have hd3 : decide ((tz : Int) < (q.n : Int)) = false := by simp; omega
                      have hx : Hid (tb = false) := hide (by rw [Htb.out, hd1, h3, hd2]; rfl)
                      clear Htb
                      go_wp2_with (go_at_call 36; with_reducible refine (Hgp.out _).mono ?_; rintro e9 w9 ⟨rfl, d3, rfl⟩)
                      go_meet
                      exact ⟨by rw [hx.out], _, rfl⟩
                · have hd1 : decide (0 < k) = false := decide_eq_false hk0
                  have hd0 : decide (0 < (k : Int)) = false := by simp; omega
                  by_cases htn : tz < q.n
                  · have hd2 : decide (tz < q.n) = true := decide_eq_true htn
                    have hd3 : decide ((tz : Int) < (q.n : Int)) = true := by simp; omega
                    have hx : Hid (tb = (vt == 3)) := hide (by rw [Htb.out, hd1, hd2]; rfl)
                    clear Htb
                    go_wp2_with (go_at_call 36; with_reducible refine (Hgt.out _).mono ?_; rintro e9 w9 ⟨rfl, d4, rfl⟩)
                    go_meet
                    exact ⟨by rw [hx.out], _, rfl⟩
                  · have hd2 : decide (tz < q.n) = false := decide_eq_false htn
                    have hd3 : decide ((tz : Int) < (q.n : Int)) = false := by simp; omega
                    have hx : Hid (tb = false) := hide (by rw [Htb.out, hd1, hd2]; rfl)
                    clear Htb
                    go_wp2_with fail
                    go_meet
                    exact ⟨by rw [hx.out], _, rfl⟩
              case rest =>
                obtain ⟨rfl, d2, rfl⟩ := hcut
                have s1d : (wr.drewN d2).cell? ⟨s, 1, none⟩ = some (.slice (some ⟨ga, 0, none⟩) q.n ca) := s1
                cases tb with
                | false =>
                  have hst : Hid (D0 = q.ends f tz E) := hide (hstep.out.trans (by rw [← Hv.out, h5]; rfl))
                  go_wp2_with fail
                  go_roundw
                  case rel => exact ⟨tz, f, E, hb2, by omega, by go_num, hst, hbi, hgr.drewN d2⟩
                  case measure => simp [intOf]; omega
                | true =>
                  obtain ⟨F, HF⟩ : ∃ F, Hid (F = q.fill 3 (tz - k) k E) := ⟨_, rfl⟩
                  have hst : Hid (D0 = q.ends f tz F) := hide (hstep.out.trans (by rw [← Hv.out, h5, HF.out]; rfl))
                  go_upto_block 4 with fail
                  go_cut [] (fun wc => BI wc gc n F ∧ Chg (Is gc) w wc)
                  case first => as_aux_lemma =>
                    go_wp2_with fail
                    go_loopw [4] (fun a wx => ∃ (t : Nat) (X : Nat → Int), k ≤ t ∧ t ≤ tz ∧ a = .int .i64 t ∧ Hid (F = q.fill 3 (tz - t) t X) ∧ BI wx gc n X ∧ Chg (Is gc) w wx) (fun a _ => tz - (intOf a).toNat)
                    case atStart => exact ⟨k, E, Nat.le_refl _, by omega, rfl, HF, hbi, hgr.drewN d2⟩
                    case round =>
                      obtain ⟨t, X, ht1, ht2, rfl, HX, hbx, hgx⟩ := hrel
                      by_cases htl : t < tz
                      · have hset := set_ok (H0.out.to hbx hgx) (k := t) (by omega) t 3 rfl
                        have Hset := hide hset
                        have hsx := (H0.out.to hbx hgx).sb.lt
                        have hX2 : Hid (F = q.fill 3 (tz - (t + 1)) (t + 1) (q.set X t 3)) := hide (HX.out.trans (by rw [show tz - t = (tz - (t + 1)) + 1 by omega]; rfl))
                        have limt : t ≤ 100000 := by omega
                        clear hset
                        go_wp2_with fail
                        refine Hset.out.mono ?_
                        rintro e9 w9 ⟨rfl, hb9, hg9⟩
                        go_wp2_with fail
                        go_roundw
                        case rel => exact ⟨t + 1, _, by omega, by omega, by go_num, hX2, hb9, hgx.trans hg9⟩
                        case measure => simp [intOf]; omega
                      · obtain rfl : t = tz := by omega
                        have hF : Hid (F = X) := hide (by rw [HX.out, Nat.sub_self]; rfl)
                        go_wp2_with fail
                        go_meet
                        exact ⟨by rw [hF.out]; exact hbx, hgx⟩
                  case rest =>
                    obtain ⟨hbF, hgF⟩ := hcut
                    go_wp2_with fail
                    go_roundw
                    case rel => exact ⟨tz, f, F, hb2, by omega, by go_num, hst, hbF, hgF⟩
                    case measure => simp [intOf]; omega
      · obtain rfl : k = q.n := by omega
        have hD : Hid (D0 = E) := hide (HE.out.trans (by
          cases f with
          | zero => rfl
          | succ f =>
            show (if q.n ≤ q.n then E else _) = E
            rw [if_pos (Nat.le_refl _)]))
        go_wp2_with fail
        go_meet
        exact ⟨by rw [hD.out]; exact hbi, hgr⟩
  case rest =>
    obtain ⟨hb1, hg1⟩ := hcut
    have H1 := hide (H0.out.to hb1 hg1)
    have hs1 := H1.out.sb.lt
    clear s1
    have s1 := H1.out.s1
    go_wp2_with fail
    go_loopw [76] (fun i wr => ∃ k : Nat, k ≤ q.n ∧ i = .int .i64 k ∧ BI wr gc n (rounds q.e2 k D0) ∧ Chg (Is gc) w wr) (fun i _ => q.n - (intOf i).toNat)
    case atStart => exact ⟨0, Nat.zero_le _, rfl, hb1, hg1⟩
    case round =>
      clear s1
      obtain ⟨k, hk, rfl, hbi, hgr⟩ := hrel
      by_cases hlt : k < q.n
      · have Hq := hide (H0.out.to hbi hgr)
        have Hnx := hide (rounds_lim q.e2 k D0)
        obtain ⟨E, HE⟩ : ∃ E, Hid (E = rounds q.e2 k D0) := ⟨_, rfl⟩
        rw [← HE.out] at Hq Hnx hbi
        have hsr := Hq.out.sb.lt
        have lim : k ≤ 100000 := by omega
        obtain ⟨v, Hv⟩ : ∃ v, Hid (v = q.get E k) := ⟨_, rfl⟩
        have Hget := hide (get_ok Hq.out k k rfl)
        rw [← Hv.out] at Hget
        have Hset := fun (x : Int) (d : Nat) => set_ok (Hq.out.drewN d) hlt k x rfl
        have Hset := hide Hset
        have he2 := hide (show q.e2 k E = if (v == 4 || v == 5 || v == 7) = true then q.set E k 13 else E by rw [Hv.out]; rfl)
        cases h4 : (v == 4) with
        | true =>
          have hw : Hid (q.e2 k E = q.set E k 13) := hide (he2.out.trans (by rw [h4]; rfl))
          go_wp2_with fail
          refine Hget.out.mono ?_
          rintro e9 w9 ⟨rfl, d1, rfl⟩
          have hsr1 := (Hq.out.drewN d1).sb.lt
          go_wp2_with fail
          refine (Hset.out 13 d1).mono ?_
          rintro e9 w8 ⟨rfl, hb8, hg8⟩
          go_wp2_with fail
          go_roundw
          case rel => exact ⟨k + 1, by omega, by go_num, by
            rw [Hnx.out, hw.out]
            exact hb8, (hgr.drewN d1).trans hg8⟩
          case measure => simp [intOf]; omega
        | false =>
          cases h5 : (v == 5) with
          | true =>
            have hw : Hid (q.e2 k E = q.set E k 13) := hide (he2.out.trans (by rw [h4, h5]; rfl))
            go_wp2_with fail
            refine Hget.out.mono ?_
            rintro e9 w9 ⟨rfl, d1, rfl⟩
            have hsr1 := (Hq.out.drewN d1).sb.lt
            go_wp2_with fail
            refine (Hset.out 13 d1).mono ?_
            rintro e9 w8 ⟨rfl, hb8, hg8⟩
            go_wp2_with fail
            go_roundw
            case rel => exact ⟨k + 1, by omega, by go_num, by
              rw [Hnx.out, hw.out]
              exact hb8, (hgr.drewN d1).trans hg8⟩
            case measure => simp [intOf]; omega
          | false =>
            cases h7 : (v == 7) with
            | true =>
              have hw : Hid (q.e2 k E = q.set E k 13) := hide (he2.out.trans (by rw [h4, h5, h7]; rfl))
              go_wp2_with fail
              refine Hget.out.mono ?_
              rintro e9 w9 ⟨rfl, d1, rfl⟩
              have hsr1 := (Hq.out.drewN d1).sb.lt
              go_wp2_with fail
              refine (Hset.out 13 d1).mono ?_
              rintro e9 w8 ⟨rfl, hb8, hg8⟩
              go_wp2_with fail
              go_roundw
              case rel => exact ⟨k + 1, by omega, by go_num, by
                rw [Hnx.out, hw.out]
                exact hb8, (hgr.drewN d1).trans hg8⟩
              case measure => simp [intOf]; omega
            | false =>
              have hw : Hid (q.e2 k E = E) := hide (he2.out.trans (by rw [h4, h5, h7]; rfl))
              go_wp2_with fail
              refine Hget.out.mono ?_
              rintro e9 w9 ⟨rfl, d1, rfl⟩
              have hsr1 := (Hq.out.drewN d1).sb.lt
              go_wp2_with fail
              go_roundw
              case rel => exact ⟨k + 1, by omega, by go_num, by
                rw [Hnx.out, hw.out]
                exact hbi, hgr.drewN d1⟩
              case measure => simp [intOf]; omega
      · obtain rfl : k = q.n := by omega
        go_wp2_with fail
        refine bodyPost_end (results_none rfl _ _ _) rfl ?_
        exact ⟨rfl, by rw [HR.out]; exact hbi, hgr⟩
end
end Go.Proofs.YtdikfldogmbeaaaDoor.Bd
