/- The contract of (*seq).weak: marks and numbers. Printed by bdweakgen.py. -/
import Derived.Test.YtdikfldogmbeaaaDoorBdEnds
import Derived.Deep.CutBlock
namespace Go.Proofs.YtdikfldogmbeaaaDoor.Bd
open Go.RowKit Go.Frm

section
variable {w w' : World} {s G ga ca gw : Nat} {q : Sq} {At : Option Addr} {ct n gc gl : Nat} {base : Int} {go : Nat} {mt : Value} {C : Nat → Int}
set_option maxRecDepth 100000 in
set_option maxHeartbeats 8000000 in
theorem weak_ok (h : QM w s G ga ca gw q At ct n gc gl base go mt C) (hn : n ≤ 100000) (hm : q.n ≤ 100000) :
    Calls Tryd.prog 22 #[.pointer (some ⟨s, 0, none⟩)] w fun e w' => e = .returned (.tuple #[]) ∧ BI w' gc n (q.weak C) ∧ Chg (Is gc) w w' := by
  have HW : Hid (q.weak C = rounds q.w5 q.n (q.endsAll (rounds q.w4 (q.n - 2) (rounds q.w3 q.n (rounds q.w2 q.n (rounds q.w1 q.n C)))))) := hide rfl
  obtain ⟨R, HR⟩ : ∃ R, Hid (R = q.weak C) := ⟨_, rfl⟩
  rw [← HR.out]
  have H := hide h
  have s1 := h.s1
  have hs := h.sb.lt
  clear h
  go_enter Tryd.func22, Tryd.ntmps22
  have H0 := H
  have Hchg := Chg.refl (Is gc) w
  go_upto_block 0 with fail
  obtain ⟨D0, HD0⟩ : ∃ D, Hid (D = rounds q.w1 q.n C) := ⟨_, rfl⟩
  go_cut [] (fun wc => BI wc gc n D0 ∧ Chg (Is gc) w wc)
  case first => as_aux_lemma =>
    go_wp2_with fail
    go_loopw [15] (fun i wr => ∃ k : Nat, k ≤ q.n ∧ i = .int .i64 k ∧ BI wr gc n (rounds q.w1 k C) ∧ Chg (Is gc) w wr) (fun i _ => q.n - (intOf i).toNat)
    case atStart => exact ⟨0, Nat.zero_le _, rfl, H.out.cl, Hchg⟩
    case round =>
      clear s1
      obtain ⟨k, hk, rfl, hbi, hgr⟩ := hrel
      by_cases hlt : k < q.n
      · have Hq := hide (H0.out.to hbi hgr)
        have Hnx := hide (rounds_lim q.w1 k C)
        obtain ⟨E, HE⟩ : ∃ E, Hid (E = rounds q.w1 k C) := ⟨_, rfl⟩
        rw [← HE.out] at Hq Hnx hbi
        have hsr := Hq.out.sb.lt
        have lim : k ≤ 100000 := by omega
        obtain ⟨v, Hv⟩ : ∃ v, Hid (v = q.get E k) := ⟨_, rfl⟩
        have Hget := hide (get_ok Hq.out k k rfl)
        rw [← Hv.out] at Hget
        have Hset := fun (x : Int) (d : Nat) => set_ok (Hq.out.drewN d) hlt k x rfl
        have Hset := hide Hset
        cases h8 : (v == 8) with
        | false =>
          have hw : Hid (q.w1 k E = E) := hide (by unfold Sq.w1; rw [← Hv.out, h8]; rfl)
          have h8' : (v != 8) = true := by rw [bne, h8]; rfl
          go_wp2_with fail
          refine Hget.out.mono ?_
          rintro e9 w9 ⟨rfl, d1, rfl⟩
          go_wp2_with fail
          go_roundw
          case rel => exact ⟨k + 1, by omega, by go_num, by
            rw [Hnx.out, hw.out]
            exact hbi, hgr.drewN d1⟩
          case measure => simp [intOf]; omega
        | true =>
          have h8' : (v != 8) = false := by rw [bne, h8]; rfl
          obtain ⟨tb, Htb⟩ : ∃ x : Bool, Hid (x = (decide (0 < k) && (iso (q.W (q.A (k - 1))) || q.W (q.A (k - 1)) == 22))) := ⟨_, rfl⟩
          have hw : Hid (q.w1 k E = if tb = true then q.set E k 13 else q.set E k (q.pre E k)) := hide (by unfold Sq.w1; rw [← Hv.out, h8, if_pos rfl, Htb.out])
          go_upto_region 4 with (go_at_call 36; refine Hget.out.mono ?_; rintro e9 w9 ⟨rfl, d1, rfl⟩)
          have Hd1 := hide (Hq.out.drewN d1)
          have hsr1 := Hd1.out.sb.lt
          go_cut [57] (fun v wc => v = .bool tb ∧ ∃ d, wc = wr.drewN d)
          case first => as_aux_lemma =>
            by_cases hk0 : k = 0
            · subst hk0
              have hx : Hid (tb = false) := hide (by rw [Htb.out]; rfl)
              clear Htb
              go_quiet (fail)
              go_wp2_with fail
              go_meet
              exact ⟨by rw [hx.out], d1 + _, by rw [World.drewN_drewN]⟩
            · have hk1 : 0 < k := by omega
              have hx0 : Hid (tb = (iso (q.W (q.A (k - 1))) || q.W (q.A (k - 1)) == 22)) := hide (by rw [Htb.out, decide_eq_true hk1]; rfl)
              have aj := Hq.out.at_ (k := k - 1) (by omega)
              have oj := Hq.out.own (Hq.out.lt (k - 1) (by omega))
              have s1 := Hq.out.s1
              have s2 := Hq.out.s2
              have hlj := Hd1.out.lt (k - 1) (by omega)
              have i1 : (k : Int) - 1 = ((k - 1 : Nat) : Int) := by omega
              have i2 : k - 1 < q.n := by omega
              have i3 : ((k - 1 : Nat) : Int) < (q.n : Int) := by omega
              have qk : IntKind.i64.wrap ((k - 1 : Nat) : Int) = ((k - 1 : Nat) : Int) := IntWalk.i64_in _ (by omega)
              have d0 : decide (0 < (k : Int)) = true := by simp; omega
              have d00 : decide (0 < k) = true := by simp; omega
              have Hi := hide (isolate_ok (q.W (q.A (k - 1))))
              generalize q.W (q.A (k - 1)) = u at *
              generalize q.A (k - 1) = a at *
              clear Htb hk0
              cases hu : iso u with
              | true =>
                have hx : Hid (tb = true) := hide (by rw [hx0.out, hu]; rfl)
                rw [hu] at Hi
                clear hx0
                go_quiet ((go_at_call 32; exact quiet_add_left (Hi.out _)))
                go_wp2_with fail
                go_meet
                exact ⟨by rw [hx.out], d1 + _, by rw [World.drewN_drewN]⟩
              | false =>
                have hx : Hid (tb = (u == 22)) := hide (by rw [hx0.out, hu]; rfl)
                rw [hu] at Hi
                clear hx0
                go_quiet ((go_at_call 32; exact quiet_add_left (Hi.out _)))
                go_wp2_with fail
                go_meet
                exact ⟨by rw [hx.out], d1 + _, by rw [World.drewN_drewN]⟩
          case rest =>
            obtain ⟨rfl, d2, rfl⟩ := hcut
            have hsr2 := (Hq.out.drewN d2).sb.lt
            cases tb with
            | true =>
              have hw2 : Hid (q.w1 k E = q.set E k 13) := hide hw.out
              go_wp2_with fail
              refine (Hset.out 13 d2).mono ?_
              rintro e9 w8 ⟨rfl, hb8, hg8⟩
              go_wp2_with fail
              go_roundw
              case rel => exact ⟨k + 1, by omega, by go_num, by
                rw [Hnx.out, hw2.out]
                exact hb8, (hgr.drewN d2).trans hg8⟩
              case measure => simp [intOf]; omega
            | false =>
              have hw2 : Hid (q.w1 k E = q.set E k (q.pre E k)) := hide hw.out
              have Hpre := hide (get_pre (Hq.out.drewN d2) k (by omega) ((k : Int) - 1) rfl)
              generalize q.pre E k = u at *
              go_wp2_with fail
              refine Hpre.out.mono ?_
              rintro e9 w9 ⟨rfl, d3, rfl⟩
              go_wp2_with fail
              refine (Hset.out u (d2 + d3)).mono ?_
              rintro e9 w8 ⟨rfl, hb8, hg8⟩
              go_wp2_with fail
              go_roundw
              case rel => exact ⟨k + 1, by omega, by go_num, by
                rw [Hnx.out, hw2.out]
                exact hb8, (hgr.drewN (d2 + d3)).trans hg8⟩
              case measure => simp [intOf]; omega
      · obtain rfl : k = q.n := by omega
        go_wp2_with fail
        go_meet
        exact ⟨by rw [HD0.out]; exact hbi, hgr⟩
  case rest =>
    obtain ⟨hb1, hg1⟩ := hcut
    replace H := hide (H0.out.to hb1 hg1)
    replace Hchg := hg1
    have hs1 := H.out.sb.lt
    clear s1
    have s1 := H.out.s1
    go_upto_block 2 with fail
    obtain ⟨D2, HD2⟩ : ∃ D, Hid (D = rounds q.w2 q.n D0) := ⟨_, rfl⟩
    go_cut [] (fun wc => BI wc gc n D2 ∧ Chg (Is gc) w wc)
    case first => as_aux_lemma =>
      go_wp2_with fail
      go_loopw [74] (fun i wr => ∃ k : Nat, k ≤ q.n ∧ i = .int .i64 k ∧ BI wr gc n (rounds q.w2 k D0) ∧ Chg (Is gc) w wr) (fun i _ => q.n - (intOf i).toNat)
      case atStart => exact ⟨0, Nat.zero_le _, rfl, H.out.cl, Hchg⟩
      case round =>
        clear s1
        obtain ⟨k, hk, rfl, hbi, hgr⟩ := hrel
        by_cases hlt : k < q.n
        · have Hq := hide (H0.out.to hbi hgr)
          have Hnx := hide (rounds_lim q.w2 k D0)
          obtain ⟨E, HE⟩ : ∃ E, Hid (E = rounds q.w2 k D0) := ⟨_, rfl⟩
          rw [← HE.out] at Hq Hnx hbi
          have hsr := Hq.out.sb.lt
          have lim : k ≤ 100000 := by omega
          obtain ⟨v, Hv⟩ : ∃ v, Hid (v = q.get E k) := ⟨_, rfl⟩
          have Hget := hide (get_ok Hq.out k k rfl)
          rw [← Hv.out] at Hget
          have Hset := fun (x : Int) (d : Nat) => set_ok (Hq.out.drewN d) hlt k x rfl
          have Hset := hide Hset
          obtain ⟨u, Hu⟩ : ∃ u, Hid (u = q.strong E k) := ⟨_, rfl⟩
          cases h3 : (v == 3) with
          | false =>
            have hw : Hid (q.w2 k E = E) := hide (by unfold Sq.w2; rw [← Hv.out, h3]; rfl)
            go_wp2_with fail
            refine Hget.out.mono ?_
            rintro e9 w9 ⟨rfl, d1, rfl⟩
            go_wp2_with fail
            go_roundw
            case rel => exact ⟨k + 1, by omega, by go_num, by
              rw [Hnx.out, hw.out]
              exact hbi, hgr.drewN d1⟩
            case measure => simp [intOf]; omega
          | true =>
            have Hstr := fun d => strong_ok (Hq.out.drewN d) (k := k) (by omega) hn hm k rfl
            have Hstr := hide Hstr
            rw [← Hu.out] at Hstr
            cases hu : (u == 2) with
            | false =>
              have hw : Hid (q.w2 k E = E) := hide (by unfold Sq.w2; rw [← Hv.out, ← Hu.out, h3, hu]; rfl)
              go_wp2_with fail
              refine Hget.out.mono ?_
              rintro e9 w9 ⟨rfl, d1, rfl⟩
              go_wp2_with fail
              refine (Hstr.out d1).mono ?_
              rintro e9 w9 ⟨rfl, d2, rfl⟩
              go_wp2_with fail
              go_roundw
              case rel => exact ⟨k + 1, by omega, by go_num, by
                rw [Hnx.out, hw.out]
                exact hbi, hgr.drewN (d1 + d2)⟩
              case measure => simp [intOf]; omega
            | true =>
              have hw : Hid (q.w2 k E = q.set E k 6) := hide (by unfold Sq.w2; rw [← Hv.out, ← Hu.out, h3, hu]; rfl)
              go_wp2_with fail
              refine Hget.out.mono ?_
              rintro e9 w9 ⟨rfl, d1, rfl⟩
              go_wp2_with fail
              refine (Hstr.out d1).mono ?_
              rintro e9 w9 ⟨rfl, d2, rfl⟩
              have hsr2 := (Hq.out.drewN (d1 + d2)).sb.lt
              go_wp2_with fail
              refine (Hset.out 6 (d1 + d2)).mono ?_
              rintro e9 w8 ⟨rfl, hb8, hg8⟩
              go_wp2_with fail
              go_roundw
              case rel => exact ⟨k + 1, by omega, by go_num, by
                rw [Hnx.out, hw.out]
                exact hb8, (hgr.drewN (d1 + d2)).trans hg8⟩
              case measure => simp [intOf]; omega
        · obtain rfl : k = q.n := by omega
          go_wp2_with fail
          go_meet
          exact ⟨by rw [HD2.out]; exact hbi, hgr⟩
    case rest =>
      obtain ⟨hb1, hg1⟩ := hcut
      replace H := hide (H0.out.to hb1 hg1)
      replace Hchg := hg1
      have hs1 := H.out.sb.lt
      clear s1
      have s1 := H.out.s1
      go_upto_block 4 with fail
      obtain ⟨D4, HD4⟩ : ∃ D, Hid (D = rounds q.w3 q.n D2) := ⟨_, rfl⟩
      go_cut [] (fun wc => BI wc gc n D4 ∧ Chg (Is gc) w wc)
      case first => as_aux_lemma =>
        go_wp2_with fail
        go_loopw [96] (fun i wr => ∃ k : Nat, k ≤ q.n ∧ i = .int .i64 k ∧ BI wr gc n (rounds q.w3 k D2) ∧ Chg (Is gc) w wr) (fun i _ => q.n - (intOf i).toNat)
        case atStart => exact ⟨0, Nat.zero_le _, rfl, H.out.cl, Hchg⟩
        case round =>
          clear s1
          obtain ⟨k, hk, rfl, hbi, hgr⟩ := hrel
          by_cases hlt : k < q.n
          · have Hq := hide (H0.out.to hbi hgr)
            have Hnx := hide (rounds_lim q.w3 k D2)
            obtain ⟨E, HE⟩ : ∃ E, Hid (E = rounds q.w3 k D2) := ⟨_, rfl⟩
            rw [← HE.out] at Hq Hnx hbi
            have hsr := Hq.out.sb.lt
            have lim : k ≤ 100000 := by omega
            obtain ⟨v, Hv⟩ : ∃ v, Hid (v = q.get E k) := ⟨_, rfl⟩
            have Hget := hide (get_ok Hq.out k k rfl)
            rw [← Hv.out] at Hget
            have Hset := fun (x : Int) (d : Nat) => set_ok (Hq.out.drewN d) hlt k x rfl
            have Hset := hide Hset
            cases h2 : (v == 2) with
            | false =>
              have hw : Hid (q.w3 k E = E) := hide (by unfold Sq.w3; rw [← Hv.out, h2]; rfl)
              go_wp2_with fail
              refine Hget.out.mono ?_
              rintro e9 w9 ⟨rfl, d1, rfl⟩
              go_wp2_with fail
              go_roundw
              case rel => exact ⟨k + 1, by omega, by go_num, by
                rw [Hnx.out, hw.out]
                exact hbi, hgr.drewN d1⟩
              case measure => simp [intOf]; omega
            | true =>
              have hw : Hid (q.w3 k E = q.set E k 1) := hide (by unfold Sq.w3; rw [← Hv.out, h2]; rfl)
              go_wp2_with fail
              refine Hget.out.mono ?_
              rintro e9 w9 ⟨rfl, d1, rfl⟩
              go_wp2_with fail
              refine (Hset.out 1 d1).mono ?_
              rintro e9 w8 ⟨rfl, hb8, hg8⟩
              go_wp2_with fail
              go_roundw
              case rel => exact ⟨k + 1, by omega, by go_num, by
                rw [Hnx.out, hw.out]
                exact hb8, (hgr.drewN d1).trans hg8⟩
              case measure => simp [intOf]; omega
          · obtain rfl : k = q.n := by omega
            go_wp2_with fail
            go_meet
            exact ⟨by rw [HD4.out]; exact hbi, hgr⟩
      case rest =>
        obtain ⟨hb1, hg1⟩ := hcut
        replace H := hide (H0.out.to hb1 hg1)
        replace Hchg := hg1
        have hs1 := H.out.sb.lt
        clear s1
        have s1 := H.out.s1
        go_upto_block 6 with fail
        obtain ⟨D6, HD6⟩ : ∃ D, Hid (D = rounds q.w4 (q.n - 2) D4) := ⟨_, rfl⟩
        go_cut [] (fun wc => BI wc gc n D6 ∧ Chg (Is gc) w wc)
        case first => as_aux_lemma =>
          go_wp2_with fail
          go_loopw [5] (fun i wr => ∃ k : Nat, k ≤ q.n - 2 ∧ i = .int .i64 ((k : Int) + 1) ∧ BI wr gc n (rounds q.w4 k D4) ∧ Chg (Is gc) w wr) (fun i _ => q.n - (intOf i).toNat)
          case atStart => exact ⟨0, Nat.zero_le _, rfl, H.out.cl, Hchg⟩
          case round =>
            clear s1
            obtain ⟨k, hk, rfl, hbi, hgr⟩ := hrel
            have Hq := hide (H0.out.to hbi hgr)
            have s1 := Hq.out.s1
            have hsr := Hq.out.sb.lt
            by_cases hlt : k + 2 < q.n
            · have Hnx := hide (rounds_lim q.w4 k D4)
              obtain ⟨E, HE⟩ : ∃ E, Hid (E = rounds q.w4 k D4) := ⟨_, rfl⟩
              rw [← HE.out] at Hq Hnx hbi
              have lim : k ≤ 100000 := by omega
              obtain ⟨va, Ha⟩ : ∃ v, Hid (v = q.get E k) := ⟨_, rfl⟩
              obtain ⟨vc, Hc⟩ : ∃ v, Hid (v = q.get E (k + 1)) := ⟨_, rfl⟩
              obtain ⟨vb, Hb⟩ : ∃ v, Hid (v = q.get E (k + 2)) := ⟨_, rfl⟩
              have Hg1 := hide (get_ok Hq.out k (k : Int) rfl)
              have Hg2 := hide (fun d => get_ok (Hq.out.drewN d) (k + 1) ((k : Int) + 1) (by omega))
              have Hg3 := hide (fun d => get_ok (Hq.out.drewN d) (k + 2) ((k : Int) + 1 + 1) (by omega))
              rw [← Ha.out] at Hg1
              rw [← Hc.out] at Hg2
              rw [← Hb.out] at Hg3
              have Hset := hide (fun (x : Int) (d : Nat) => set_ok (Hq.out.drewN d) (k := k + 1) (by omega) ((k : Int) + 1) x (by omega))
              obtain ⟨tb, Htb⟩ : ∃ x : Bool, Hid (x = (va == vb && ((vc == 4 && va == 3) || (vc == 7 && (va == 3 || va == 6))))) := ⟨_, rfl⟩
              have hw : Hid (q.w4 k E = if tb = true then q.set E (k + 1) va else E) := hide (by unfold Sq.w4; rw [← Ha.out, ← Hb.out, ← Hc.out, Htb.out])
              have i1 : (k : Int) + 1 + 1 < (q.n : Int) := by omega
              have i2 : (k : Int) + 1 - 1 = (k : Int) := by omega
              go_upto_region 24 with (first
                | (go_at_call 36; with_reducible refine Hg1.out.mono ?_; rintro e9 w9 ⟨rfl, d1, rfl⟩)
                | (go_at_call 36; with_reducible refine (Hg2.out _).mono ?_; rintro e9 w9 ⟨rfl, d2, rfl⟩)
                | (go_at_call 36; with_reducible refine (Hg3.out _).mono ?_; rintro e9 w9 ⟨rfl, d3, rfl⟩))
              have Hq3 := hide (Hq.out.drewN (d1 + d2 + d3))
              have hsr3 := Hq3.out.sb.lt
              go_cut [150] (fun v wx => v = .bool tb ∧ wx = wr.drewN (d1 + d2 + d3))
              case first => as_aux_lemma =>
                cases hab : (va == vb) with
                | true =>
                  cases h4 : (vc == 4) with
                  | true =>
                    cases h3 : (va == 3) with
                    | true =>
                      have hx : Hid (tb = true) := hide (by rw [Htb.out, hab, h4, h3]; rfl)
                      clear Htb hw
                      go_wp2_with fail
                      go_meet
                      exact ⟨by rw [hx.out], rfl⟩
                    | false =>
                      cases h7 : (vc == 7) with
                      | true =>
                        have hx : Hid (tb = (va == 6)) := hide (by rw [Htb.out, hab, h4, h3, h7]; rfl)
                        clear Htb hw
                        go_wp2_with fail
                        go_meet
                        exact ⟨by rw [hx.out], rfl⟩
                      | false =>
                        have hx : Hid (tb = false) := hide (by rw [Htb.out, hab, h4, h3, h7]; rfl)
                        clear Htb hw
                        go_wp2_with fail
                        go_meet
                        exact ⟨by rw [hx.out], rfl⟩
                  | false =>
                    cases h7 : (vc == 7) with
                    | true =>
                      cases h3 : (va == 3) with
                      | true =>
                        have hx : Hid (tb = true) := hide (by rw [Htb.out, hab, h4, h7, h3]; rfl)
                        clear Htb hw
                        go_wp2_with fail
                        go_meet
                        exact ⟨by rw [hx.out], rfl⟩
                      | false =>
                        have hx : Hid (tb = (va == 6)) := hide (by rw [Htb.out, hab, h4, h7, h3]; rfl)
                        clear Htb hw
                        go_wp2_with fail
                        go_meet
                        exact ⟨by rw [hx.out], rfl⟩
                    | false =>
                      have hx : Hid (tb = false) := hide (by rw [Htb.out, hab, h4, h7]; rfl)
                      clear Htb hw
                      go_wp2_with fail
                      go_meet
                      exact ⟨by rw [hx.out], rfl⟩
                | false =>
                  have hx : Hid (tb = false) := hide (by rw [Htb.out, hab]; rfl)
                  clear Htb hw
                  go_wp2_with fail
                  go_meet
                  exact ⟨by rw [hx.out], rfl⟩
              case rest =>
                obtain ⟨rfl, rfl⟩ := hcut
                cases tb with
                | true =>
                  have hw2 : Hid (q.w4 k E = q.set E (k + 1) va) := hide hw.out
                  go_wp2_with fail
                  refine (Hset.out va (d1 + d2 + d3)).mono ?_
                  rintro e9 w8 ⟨rfl, hb8, hg8⟩
                  go_wp2_with fail
                  go_roundw
                  case rel => exact ⟨k + 1, by omega, by go_num, by
                    rw [Hnx.out, hw2.out]
                    exact hb8, (hgr.drewN (d1 + d2 + d3)).trans hg8⟩
                  case measure => simp [intOf]; omega
                | false =>
                  have hw2 : Hid (q.w4 k E = E) := hide hw.out
                  go_wp2_with fail
                  go_roundw
                  case rel => exact ⟨k + 1, by omega, by go_num, by
                    rw [Hnx.out, hw2.out]
                    exact hbi, hgr.drewN (d1 + d2 + d3)⟩
                  case measure => simp [intOf]; omega
            · obtain rfl : k = q.n - 2 := by omega
              have i1 : ¬ ((q.n - 2 : Nat) : Int) + 1 + 1 < (q.n : Int) := by omega
              have i2 : decide (((q.n - 2 : Nat) : Int) + 1 + 1 < (q.n : Int)) = false := by simp; omega
              go_wp2_with fail
              go_meet
              exact ⟨by rw [HD6.out]; exact hbi, hgr⟩
        case rest =>
          obtain ⟨hb1, hg1⟩ := hcut
          replace H := hide (H0.out.to hb1 hg1)
          replace Hchg := hg1
          have hs1 := H.out.sb.lt
          clear s1
          have s1 := H.out.s1
          have Hends := hide (ends_ok H.out hm)
          go_upto_region 27 with (go_at_call 39; refine Hends.out.mono ?_; rintro e9 w5 ⟨rfl, hb5, hg5⟩)
          obtain ⟨D8, HD8⟩ : ∃ D, Hid (D = q.endsAll D6) := ⟨_, rfl⟩
          rw [← HD8.out] at hb5
          replace H := hide (H.out.to hb5 hg5)
          have hg6 := Hchg.trans hg5
          clear Hchg
          have Hchg := hg6
          have hs1 := H.out.sb.lt
          clear s1
          have s1 := H.out.s1
          go_wp2_with fail
          go_loopw [162] (fun i wr => ∃ k : Nat, k ≤ q.n ∧ i = .int .i64 k ∧ BI wr gc n (rounds q.w5 k D8) ∧ Chg (Is gc) w wr) (fun i _ => q.n - (intOf i).toNat)
          case atStart => exact ⟨0, Nat.zero_le _, rfl, H.out.cl, Hchg⟩
          case round =>
            clear s1
            obtain ⟨k, hk, rfl, hbi, hgr⟩ := hrel
            by_cases hlt : k < q.n
            · have Hq := hide (H0.out.to hbi hgr)
              have Hnx := hide (rounds_lim q.w5 k D8)
              obtain ⟨E, HE⟩ : ∃ E, Hid (E = rounds q.w5 k D8) := ⟨_, rfl⟩
              rw [← HE.out] at Hq Hnx hbi
              have hsr := Hq.out.sb.lt
              have lim : k ≤ 100000 := by omega
              obtain ⟨v, Hv⟩ : ∃ v, Hid (v = q.get E k) := ⟨_, rfl⟩
              have Hget := hide (get_ok Hq.out k k rfl)
              rw [← Hv.out] at Hget
              have Hset := fun (x : Int) (d : Nat) => set_ok (Hq.out.drewN d) hlt k x rfl
              have Hset := hide Hset
              obtain ⟨u, Hu⟩ : ∃ u, Hid (u = q.strong E k) := ⟨_, rfl⟩
              cases h3 : (v == 3) with
              | false =>
                have hw : Hid (q.w5 k E = E) := hide (by unfold Sq.w5; rw [← Hv.out, h3]; rfl)
                go_wp2_with fail
                refine Hget.out.mono ?_
                rintro e9 w9 ⟨rfl, d1, rfl⟩
                go_wp2_with fail
                go_roundw
                case rel => exact ⟨k + 1, by omega, by go_num, by
                  rw [Hnx.out, hw.out]
                  exact hbi, hgr.drewN d1⟩
                case measure => simp [intOf]; omega
              | true =>
                have Hstr := fun d => strong_ok (Hq.out.drewN d) (k := k) (by omega) hn hm k rfl
                have Hstr := hide Hstr
                rw [← Hu.out] at Hstr
                cases hu : (u == 0) with
                | false =>
                  have hw : Hid (q.w5 k E = E) := hide (by unfold Sq.w5; rw [← Hv.out, ← Hu.out, h3, hu]; rfl)
                  go_wp2_with fail
                  refine Hget.out.mono ?_
                  rintro e9 w9 ⟨rfl, d1, rfl⟩
                  go_wp2_with fail
                  refine (Hstr.out d1).mono ?_
                  rintro e9 w9 ⟨rfl, d2, rfl⟩
                  go_wp2_with fail
                  go_roundw
                  case rel => exact ⟨k + 1, by omega, by go_num, by
                    rw [Hnx.out, hw.out]
                    exact hbi, hgr.drewN (d1 + d2)⟩
                  case measure => simp [intOf]; omega
                | true =>
                  have hw : Hid (q.w5 k E = q.set E k 0) := hide (by unfold Sq.w5; rw [← Hv.out, ← Hu.out, h3, hu]; rfl)
                  go_wp2_with fail
                  refine Hget.out.mono ?_
                  rintro e9 w9 ⟨rfl, d1, rfl⟩
                  go_wp2_with fail
                  refine (Hstr.out d1).mono ?_
                  rintro e9 w9 ⟨rfl, d2, rfl⟩
                  have hsr2 := (Hq.out.drewN (d1 + d2)).sb.lt
                  go_wp2_with fail
                  refine (Hset.out 0 (d1 + d2)).mono ?_
                  rintro e9 w8 ⟨rfl, hb8, hg8⟩
                  go_wp2_with fail
                  go_roundw
                  case rel => exact ⟨k + 1, by omega, by go_num, by
                    rw [Hnx.out, hw.out]
                    exact hb8, (hgr.drewN (d1 + d2)).trans hg8⟩
                  case measure => simp [intOf]; omega
            · obtain rfl : k = q.n := by omega
              go_wp2_with fail
              refine bodyPost_end (results_none rfl _ _ _) rfl ?_
              exact ⟨rfl, by
                rw [HR.out, HW.out, ← HD0.out, ← HD2.out, ← HD4.out, ← HD6.out, ← HD8.out]
                exact hbi, hgr⟩
end
end Go.Proofs.YtdikfldogmbeaaaDoor.Bd
