/- The contract of (*seq).brackets. -/
import Derived.Test.YtdikfldogmbeaaaDoorBdBrk
import Derived.Test.YtdikfldogmbeaaaDoorBdNeutral
namespace Go.Proofs.YtdikfldogmbeaaaDoor.Bd
open Go.RowKit Go.Frm

theorem has_succ (q : Sq) (C : Nat → Int) (T : Int → Bool) (r k : Nat) : q.has C T (r + 1) k = (T (lside (q.get C k)) || q.has C T r (k + 1)) := rfl
theorem marks_succ (q : Sq) (x : Int) (r k : Nat) (C : Nat → Int) : q.marks x (r + 1) k C = if q.W (q.A k) == 8 then q.marks x r (k + 1) (q.set C k x) else C := rfl
theorem mark_eq (q : Sq) (x : Int) (k : Nat) (C : Nat → Int) : q.mark x k C = q.marks x (q.n - (k + 1)) (k + 1) (q.set C k x) := rfl
theorem before_succ (q : Sq) (C : Nat → Int) (k : Nat) : q.before C (k + 1) = if 0 ≤ lside (C (q.A k)) then lside (C (q.A k)) else q.before C k := rfl
theorem brS_succ (q : Sq) (p : Ps) (C : Nat → Int) (i : Nat) : q.brS p C (i + 1) = q.brOne (p.a i) (p.b i) (q.brS p C i) := rfl
theorem lside_cases (c : Int) : lside c = 0 ∨ lside c = 1 ∨ lside c = -1 := by
  unfold lside
  split
  · exact .inl rfl
  · split
    · exact .inr (.inl rfl)
    · exact .inr (.inr rfl)
theorem side_cases (l : Int) : side l = 0 ∨ side l = 1 := by
  unfold side
  split
  · exact .inr rfl
  · exact .inl rfl
section
variable {w : World} {s G ga ca gw : Nat} {q : Sq} {At : Option Addr} {ct n gc gl : Nat} {base : Int} {go : Nat} {mt : Value} {C : Nat → Int}
set_option maxRecDepth 100000 in
set_option maxHeartbeats 8000000 in
theorem brackets_ok (h : QM w s G ga ca gw q At ct n gc gl base go mt C) (hm : q.n ≤ 100000) (X : Nat → Int) (hX : RdI w At (tab n X)) (hB : BrC w) (hlv : 0 ≤ q.lv ∧ q.lv ≤ 1000) :
    Calls Tryd.prog 23 #[.pointer (some ⟨s, 0, none⟩)] w fun e w' => e = .returned (.tuple #[]) ∧ BI w' gc n (q.brackets (tbV brTb) X C) ∧ Chg (Is gc) w w' := by
  obtain ⟨R, HR⟩ : ∃ R, Hid (R = q.brackets (tbV brTb) X C) := ⟨_, rfl⟩
  rw [← HR.out]
  have Hpr := hide (brackets_prs q (tbV brTb) X C)
  have Hps := hide (pairs_seq_ok h hm X hX hB)
  obtain ⟨P, HP⟩ : ∃ P, Hid (P = q.prs (tbV brTb) X C) := ⟨_, rfl⟩
  rw [← HP.out] at Hpr Hps
  obtain ⟨N, p⟩ := P
  have Hpr : Hid (R = q.brS p C N) := hide (HR.out.trans Hpr.out)
  have H0 := hide h
  have s3 := h.s3
  have hs := h.sb.lt
  have hgc := h.cl.lt
  obtain ⟨ow, How⟩ : ∃ x, Hid (x = side q.lv) := ⟨_, rfl⟩
  have Hsd := hide (side_ok q.lv hlv.1 hlv.2 w)
  rw [← How.out] at Hsd
  have how : ow = 0 ∨ ow = 1 := by rw [How.out]; exact side_cases _
  clear h hX hB HR HP
  go_enter Tryd.func23, Tryd.ntmps23
  go_wp2_with fail
  refine Hsd.out.mono ?_
  rintro e9 w9 ⟨rfl, rfl⟩
  go_wp2_with fail
  refine Hps.out.mono ?_
  rintro e9 w1 ⟨A, c, rfl, hrow, hpok, hbl⟩
  have hcap := own_cap hrow
  have H1 := hide (H0.out.below hbl)
  have Hrow := hide hrow
  have Hpok := hide hpok
  have Hc1 : Hid (Chg (Is gc) w w1) := hide ((Chg.refl _ w).below hbl)
  replace hcap : N ≤ c ∧ c ≤ 9223372036854775807 := hcap
  clear Hps Hsd hrow hpok hbl s3
  go_wp2_with fail
  go_loopw [22] (fun a wr => ∃ i : Nat, i ≤ N ∧ a = .int .i64 i ∧ BI wr gc n (q.brS p C i) ∧ Chg (Is gc) w1 wr) (fun a _ => N - (intOf a).toNat)
  case atStart => exact ⟨0, Nat.zero_le _, rfl, H1.out.cl, Chg.refl _ _⟩
  case round =>
    obtain ⟨wo, rfl⟩ : ∃ wx : World, wx = wr := ⟨_, rfl⟩
    obtain ⟨i, hi, rfl, hbi, hgr⟩ := hrel
    by_cases hlt : i < N
    · have Hq := H1.out.to hbi hgr
      have hro := own_chg Hrow.out hgr (fun x hx => by have : x = gc := hx; omega)
      obtain ⟨g, rfl, hg⟩ := own_at hro (by show 0 < N; omega)
      have a0 : wo.cell? ⟨g, i * 2, none⟩ = some (.int .i64 (p.a i : Nat)) := own_cellF hro (i := i) (j := 0) hlt (by omega)
      have a1 : wo.cell? ⟨g, i * 2 + 1, none⟩ = some (.int .i64 (p.b i : Nat)) := own_cellF hro (i := i) (j := 1) hlt (by omega)
      have hab := Hpok.out i hlt
      have Hst := hide (brS_succ q p C i)
      generalize q.brS p C i = E at *
      generalize p.a i = a at *
      generalize p.b i = b at *
      replace hab : a < q.n ∧ b < q.n := hab
      obtain ⟨ha, hb⟩ := hab
      have hbox : Blk (wo.alloc (.cells #[.int .i64 a, .int .i64 b] 69)) wo.heap.size 69 #[.int .i64 a, .int .i64 b] := Blk.new _ _ _
      have hbl2 : Below wo.heap.size wo (wo.alloc (.cells #[.int .i64 a, .int .i64 b] 69)) := (Below.refl _ _).alloc (Nat.le_refl _) _
      have H2 := hide (Hq.below hbl2)
      have Hg2 := hide (hgr.below hbl2)
      go_upto_block 2 with fail
      generalize wo.alloc (.cells #[.int .i64 a, .int .i64 b] 69) = w2 at *
      obtain ⟨g9, Hg9⟩ : ∃ x, Hid (x = wo.heap.size) := ⟨_, rfl⟩
      rw [← Hg9.out] at hbox
      rw [← Hg9.out]
      have b0 : w2.cell? ⟨g9, 0, none⟩ = some (.int .i64 a) := hbox.cell 0
      have b1 : w2.cell? ⟨g9, 1, none⟩ = some (.int .i64 b) := hbox.cell 1
      have lb := hbox.lt
      clear hbl2 a0 a1 hbi hgr Hq hro
      go_cut [5, 6] (fun v5 v6 wc => ∃ (sm ot : Bool) (d : Nat), v5 = .bool sm ∧ v6 = .bool ot ∧ Hid (q.brClass E a b = if sm = true then some ow else if ot = true then some (q.before E a) else none) ∧ wc = w2.drewN d)
      case first => as_aux_lemma =>
        have Hcl : Hid (q.brClass E a b = if q.has E (· == ow) (b - (a + 1)) (a + 1) = true then some ow else if q.has E (fun x => decide (0 ≤ x)) (b - (a + 1)) (a + 1) = true then some (q.before E a) else none) := hide (by rw [How.out]; rfl)
        go_wp2_with fail
        go_loopw [5, 6, 7] (fun v5 v6 v7 wr => ∃ (sm ot : Bool) (k d : Nat), v5 = .bool sm ∧ v6 = .bool ot ∧ v7 = .int .i64 k ∧ a + 1 ≤ k ∧ Hid (q.has E (· == ow) (b - (a + 1)) (a + 1) = (sm || q.has E (· == ow) (b - k) k)) ∧ Hid (q.has E (fun x => decide (0 ≤ x)) (b - (a + 1)) (a + 1) = (sm || (ot || q.has E (fun x => decide (0 ≤ x)) (b - k) k))) ∧ wr = w2.drewN d) (fun _ _ v7 _ => b - (intOf v7).toNat)
        case atStart => exact ⟨false, false, a + 1, 0, rfl, rfl, by go_num, Nat.le_refl _, hide (by simp), hide (by simp), rfl⟩
        case round =>
          obtain ⟨sm, ot, k, d, rfl, rfl, rfl, hak, Hh1, Hh2, rfl⟩ := hrel
          have b1d : (w2.drewN d).cell? ⟨g9, 1, none⟩ = some (.int .i64 b) := b1
          by_cases hkb : k < b
          · have Hg := hide (get_in (H2.out.drewN d) (show k < q.n by omega) (k : Int) rfl)
            have Hget : Hid (q.get E k = E (q.A k)) := hide (if_pos (by omega))
            generalize E (q.A k) = v at *
            have Hls := hide (fun w => letterSide_ok v w)
            have Hn1 : Hid (q.has E (· == ow) (b - k) k = ((lside v == ow) || q.has E (· == ow) (b - (k + 1)) (k + 1))) := hide (by rw [show b - k = (b - (k + 1)) + 1 by omega, has_succ, Hget.out])
            have Hn2 : Hid (q.has E (fun x => decide (0 ≤ x)) (b - k) k = (decide (0 ≤ lside v) || q.has E (fun x => decide (0 ≤ x)) (b - (k + 1)) (k + 1))) := hide (by rw [show b - k = (b - (k + 1)) + 1 by omega, has_succ, Hget.out])
            have hlc := lside_cases v
            generalize lside v = lv at *
            have lim : k ≤ 100000 := by omega
            cases he : (lv == ow) with
            | true =>
              have e1 : Hid (q.has E (· == ow) (b - (a + 1)) (a + 1) = (true || q.has E (· == ow) (b - (k + 1)) (k + 1))) := hide (by rw [Hh1.out, Hn1.out, he]; simp)
              have e2 : Hid (q.has E (fun x => decide (0 ≤ x)) (b - (a + 1)) (a + 1) = (true || (ot || q.has E (fun x => decide (0 ≤ x)) (b - (k + 1)) (k + 1)))) := hide (by
                have hz : decide (0 ≤ lv) = true := by
                  have : lv = ow := by simpa using he
                  simp; omega
                rw [Hh2.out, Hn2.out, hz]; simp)
              go_wp2_with (first | (go_at_call 36; refine Hg.out.mono ?_; rintro e9 w9 ⟨rfl, d1, rfl⟩) | (go_at_call 42; refine (Hls.out _).mono ?_; rintro e9 w9 ⟨rfl, rfl⟩))
              go_roundw
              case rel => exact ⟨true, ot, k + 1, d + d1, rfl, rfl, by go_num, by omega, e1, e2, rfl⟩
              case measure => simp [intOf]; omega
            | false =>
              have e1 : Hid (q.has E (· == ow) (b - (a + 1)) (a + 1) = (sm || q.has E (· == ow) (b - (k + 1)) (k + 1))) := hide (by rw [Hh1.out, Hn1.out, he]; simp)
              rcases hlc with rfl | rfl | rfl
              · have e2 : Hid (q.has E (fun x => decide (0 ≤ x)) (b - (a + 1)) (a + 1) = (sm || (true || q.has E (fun x => decide (0 ≤ x)) (b - (k + 1)) (k + 1)))) := hide (by rw [Hh2.out, Hn2.out]; simp)
                go_wp2_with (first | (go_at_call 36; refine Hg.out.mono ?_; rintro e9 w9 ⟨rfl, d1, rfl⟩) | (go_at_call 42; refine (Hls.out _).mono ?_; rintro e9 w9 ⟨rfl, rfl⟩))
                go_roundw
                case rel => exact ⟨sm, true, k + 1, d + d1, rfl, rfl, by go_num, by omega, e1, e2, rfl⟩
                case measure => simp [intOf]; omega
              · have e2 : Hid (q.has E (fun x => decide (0 ≤ x)) (b - (a + 1)) (a + 1) = (sm || (true || q.has E (fun x => decide (0 ≤ x)) (b - (k + 1)) (k + 1)))) := hide (by rw [Hh2.out, Hn2.out]; simp)
                go_wp2_with (first | (go_at_call 36; refine Hg.out.mono ?_; rintro e9 w9 ⟨rfl, d1, rfl⟩) | (go_at_call 42; refine (Hls.out _).mono ?_; rintro e9 w9 ⟨rfl, rfl⟩))
                go_roundw
                case rel => exact ⟨sm, true, k + 1, d + d1, rfl, rfl, by go_num, by omega, e1, e2, rfl⟩
                case measure => simp [intOf]; omega
              · have e2 : Hid (q.has E (fun x => decide (0 ≤ x)) (b - (a + 1)) (a + 1) = (sm || (ot || q.has E (fun x => decide (0 ≤ x)) (b - (k + 1)) (k + 1)))) := hide (by rw [Hh2.out, Hn2.out]; simp)
                go_wp2_with (first | (go_at_call 36; refine Hg.out.mono ?_; rintro e9 w9 ⟨rfl, d1, rfl⟩) | (go_at_call 42; refine (Hls.out _).mono ?_; rintro e9 w9 ⟨rfl, rfl⟩))
                go_roundw
                case rel => exact ⟨sm, ot, k + 1, d + d1, rfl, rfl, by go_num, by omega, e1, e2, rfl⟩
                case measure => simp [intOf]; omega
          · have hr0 : b - k = 0 := by omega
            go_wp2_with fail
            go_meet
            exact ⟨sm, ot, d, rfl, rfl, hide (by
              rw [Hcl.out, Hh1.out, Hh2.out, hr0]
              show (if (sm || false) = true then _ else if (sm || (ot || false)) = true then _ else _) = _
              cases sm <;> cases ot <;> rfl), rfl⟩
      case rest =>
        obtain ⟨sm, ot, d, rfl, rfl, Hcl, rfl⟩ := hcut
        have H3 := hide (H2.out.drewN d)
        have Hg3 := hide (Hg2.out.drewN d)
        have hbox3 := hbox.drewN d
        have c0 : (w2.drewN d).cell? ⟨g9, 0, none⟩ = some (.int .i64 a) := b0
        have c1 : (w2.drewN d).cell? ⟨g9, 1, none⟩ = some (.int .i64 b) := b1
        have lb3 := hbox3.lt
        clear hbox b0 b1 lb H2 Hg2
        generalize w2.drewN d = w3 at *
        go_upto_region 15 with fail
        go_cut [51] (fun v wc => v = .bool (!sm && !ot) ∧ w3 = wc)
        case first => as_aux_lemma => cases sm <;> cases ot <;> (go_wp2_with fail; go_meet; exact ⟨rfl, rfl⟩)
        case rest =>
          obtain ⟨rfl, rfl⟩ := hcut
          cases hso : (!sm && !ot) with
          | true =>
            have hst2 : Hid (q.brS p C (i + 1) = E) := hide (by
              rw [Hst.out]
              unfold Sq.brOne
              rw [Hcl.out]
              cases sm <;> cases ot <;> first | rfl | exact absurd hso (by decide))
            go_wp2_with fail
            go_roundw
            case rel => exact ⟨i + 1, by omega, by go_num, by rw [hst2.out]; exact H3.out.cl, Hg3.out⟩
            case measure => simp [intOf]; omega
          | false =>
            go_upto_if 53 with fail
            go_cut [8] (fun v wc => ∃ (x : Int) (d : Nat), v = .int .i64 x ∧ Hid (q.brClass E a b = some x) ∧ wc = w3.drewN d)
            case first => as_aux_lemma =>
              cases sm with
              | true =>
                go_wp2_with fail
                go_meet
                exact ⟨ow, 0, rfl, hide (by rw [Hcl.out]; rfl), rfl⟩
              | false =>
                have hot : ot = true := by cases ot <;> first | rfl | exact absurd hso (by decide)
                subst hot
                simp only [Bool.not_false]
                have Hbf : Hid (q.brClass E a b = some (q.before E a)) := hide (by rw [Hcl.out]; rfl)
                have s4 := H3.out.s4
                have hs3 := H3.out.sb.lt
                clear Hcl hso
                go_upto_block 5 with fail
                go_cut [9] (fun v wc => ∃ d : Nat, v = .int .i64 (q.before E a) ∧ wc = w3.drewN d)
                case first => as_aux_lemma =>
                  go_wp2_with fail
                  go_loopw [9, 10] (fun v9 v10 wr => ∃ m d : Nat, m ≤ a ∧ v9 = .int .i64 q.bg ∧ v10 = .int .i64 ((m : Int) - 1) ∧ Hid (q.before E a = q.before E m) ∧ wr = w3.drewN d) (fun _ v10 _ => (intOf v10 + 1).toNat)
                  case atStart => exact ⟨a, 0, Nat.le_refl _, rfl, by go_num, hide rfl, rfl⟩
                  case round =>
                    obtain ⟨m, d, hma, rfl, rfl, Hb, rfl⟩ := hrel
                    cases m with
                    | zero =>
                      go_wp2_with fail
                      go_meet
                      exact ⟨d, by rw [Hb.out]; rfl, rfl⟩
                    | succ m =>
                      have Hg := hide (get_in (H3.out.drewN d) (show m < q.n by omega) (m : Int) rfl)
                      have Hbs : Hid (q.before E a = if 0 ≤ lside (E (q.A m)) then lside (E (q.A m)) else q.before E m) := hide (Hb.out.trans (before_succ q E m))
                      generalize E (q.A m) = v at *
                      have Hls := hide (fun w => letterSide_ok v w)
                      have hlc := lside_cases v
                      generalize lside v = lv at *
                      have lim : m ≤ 100000 := by omega
                      have i1 : ((m + 1 : Nat) : Int) - 1 = (m : Int) := by omega
                      rw [i1]
                      by_cases h0 : 0 ≤ lv
                      · have hb2 : Hid (q.before E a = lv) := hide (by rw [Hbs.out, if_pos h0])
                        go_wp2_with (first | (go_at_call 36; refine Hg.out.mono ?_; rintro e9 w9 ⟨rfl, d1, rfl⟩) | (go_at_call 42; refine (Hls.out _).mono ?_; rintro e9 w9 ⟨rfl, rfl⟩))
                        go_meet
                        exact ⟨d + d1, by rw [hb2.out], rfl⟩
                      · have hb2 : Hid (q.before E a = q.before E m) := hide (by rw [Hbs.out, if_neg h0])
                        go_wp2_with (first | (go_at_call 36; refine Hg.out.mono ?_; rintro e9 w9 ⟨rfl, d1, rfl⟩) | (go_at_call 42; refine (Hls.out _).mono ?_; rintro e9 w9 ⟨rfl, rfl⟩))
                        go_roundw
                        case rel => exact ⟨m, d + d1, by omega, rfl, by go_num, hb2, rfl⟩
                        case measure => simp [intOf]
                case rest =>
                  obtain ⟨d, rfl, rfl⟩ := hcut
                  generalize q.before E a = x at *
                  by_cases hx : x = ow
                  · subst hx
                    go_wp2_with fail
                    go_meet
                    exact ⟨x, d, rfl, Hbf, rfl⟩
                  · have hx2 : (x == ow) = false := by simpa using hx
                    go_wp2_with fail
                    go_meet
                    exact ⟨x, d, rfl, Hbf, rfl⟩
            case rest =>
              obtain ⟨x, d, rfl, Hx, rfl⟩ := hcut
              have hst2 : Hid (q.brS p C (i + 1) = q.mark x b (q.mark x a E)) := hide (by
                rw [Hst.out]
                unfold Sq.brOne
                rw [Hx.out])
              have H4 := hide (H3.out.drewN d)
              have Hg4 := hide (Hg3.out.drewN d)
              have d0 : (w3.drewN d).cell? ⟨g9, 0, none⟩ = some (.int .i64 a) := c0
              have d1 : (w3.drewN d).cell? ⟨g9, 1, none⟩ = some (.int .i64 b) := c1
              have lb4 : g9 < (w3.drewN d).heap.size := lb3
              clear Hcl Hx H3 Hg3 c0 c1 lb3 hbox3 hso
              generalize w3.drewN d = w4 at *
              go_upto_block 7 with fail
              go_wp2_with fail
              go_loopw [77] (fun v wr => ∃ (j : Nat) (D : Nat → Int), j ≤ 2 ∧ v = .int .i64 j ∧ Hid (D = if j = 0 then E else if j = 1 then q.mark x a E else q.mark x b (q.mark x a E)) ∧ BI wr gc n D ∧ Chg (Is gc) w4 wr) (fun v _ => 2 - (intOf v).toNat)
              case atStart => exact ⟨0, E, by omega, rfl, hide rfl, H4.out.cl, Chg.refl _ _⟩
              case round =>
                obtain ⟨w5, rfl⟩ : ∃ wx : World, wx = wr := ⟨_, rfl⟩
                obtain ⟨j, D, hj, rfl, HD, hbi, hgr⟩ := hrel
                by_cases hj2 : j < 2
                · obtain ⟨pl, Hpl⟩ : ∃ y, Hid (y = if j = 0 then a else b) := ⟨_, rfl⟩
                  have hpn : pl < q.n := by rw [Hpl.out]; split <;> omega
                  have HT : Hid ((if j + 1 = 0 then E else if j + 1 = 1 then q.mark x a E else q.mark x b (q.mark x a E)) = q.mark x pl D) := hide (by
                    rw [HD.out, Hpl.out]
                    have : j = 0 ∨ j = 1 := by omega
                    rcases this with rfl | rfl <;> rfl)
                  go_upto_region 28 with fail
                  go_cut [13] (fun v wc => v = .int .i64 pl ∧ w5 = wc)
                  case first => as_aux_lemma =>
                    have i0 : ∀ w : World, (Instr.index 69 (.agg #[.int .i64 (a : Int), .int .i64 (b : Int)]) (.int .i64 0)).run Tryd.prog w = .ok (.int .i64 (a : Int)) w := fun _ => by kernel_rfl
                    have i1 : ∀ w : World, (Instr.index 69 (.agg #[.int .i64 (a : Int), .int .i64 (b : Int)]) (.int .i64 1)).run Tryd.prog w = .ok (.int .i64 (b : Int)) w := fun _ => by kernel_rfl
                    have : j = 0 ∨ j = 1 := by omega
                    rcases this with rfl | rfl
                    · go_wp2_with fail
                      go_meet
                      exact ⟨by rw [Hpl.out]; rfl, rfl⟩
                    · go_wp2_with fail
                      go_meet
                      exact ⟨by rw [Hpl.out]; rfl, rfl⟩
                  case rest =>
                    obtain ⟨rfl, rfl⟩ := hcut
                    have Hq5 := hide (H4.out.to hbi hgr)
                    have Hset := hide (set_ok Hq5.out hpn (pl : Int) x rfl)
                    have HT2 : Hid (q.marks x (q.n - (pl + 1)) (pl + 1) (q.set D pl x) = (if j + 1 = 0 then E else if j + 1 = 1 then q.mark x a E else q.mark x b (q.mark x a E))) := hide (HT.out.trans (mark_eq q x pl D)).symm
                    have lim : pl ≤ 100000 := by omega
                    go_wp2_with fail
                    refine Hset.out.mono ?_
                    rintro e9 w9 ⟨rfl, hb9, hg9⟩
                    have hg9' := hgr.trans hg9
                    go_upto_block 9 with fail
                    go_wp2_with fail
                    go_loopw [13] (fun v wr => ∃ (k : Nat) (F : Nat → Int), k ≤ q.n ∧ v = .int .i64 k ∧ Hid (q.marks x (q.n - (pl + 1)) (pl + 1) (q.set D pl x) = q.marks x (q.n - k) k F) ∧ BI wr gc n F ∧ Chg (Is gc) w4 wr) (fun v _ => q.n - (intOf v).toNat)
                    case atStart => exact ⟨pl + 1, _, by omega, by go_num, hide rfl, hb9, hg9'⟩
                    case round =>
                      obtain ⟨w6, rfl⟩ : ∃ wx : World, wx = wr := ⟨_, rfl⟩
                      obtain ⟨k, F, hk, rfl, HF, hb6, hg6⟩ := hrel
                      have Hq6 := hide (H4.out.to hb6 hg6)
                      have r1 := Hq6.out.s1
                      have r2 := Hq6.out.s2
                      have rs := Hq6.out.sb.lt
                      by_cases hkn : k < q.n
                      · have hAk := H4.out.lt k hkn
                        have ra := Hq6.out.at_ hkn
                        have rw_ := Hq6.out.own hAk
                        have Hms : Hid (q.marks x (q.n - k) k F = if q.W (q.A k) == 8 then q.marks x (q.n - (k + 1)) (k + 1) (q.set F k x) else F) := hide (by rw [show q.n - k = (q.n - (k + 1)) + 1 by omega, marks_succ])
                        have Hset6 : Hid (Calls Tryd.prog 37 #[.pointer (some ⟨s, 0, none⟩), .int .i64 (k : Int), .int .i64 x] w6.drew fun e w' => e = .returned (.tuple #[]) ∧ BI w' gc n (q.set F k x) ∧ Chg (Is gc) w6.drew w') := hide (set_ok (Hq6.out.drewN 1) hkn (k : Int) x rfl)
                        generalize q.A k = ak at *
                        generalize q.W ak = wv at *
                        have lim6 : k ≤ 100000 := by omega
                        cases h8 : (wv == 8) with
                        | true =>
                          have HF2 : Hid (q.marks x (q.n - (pl + 1)) (pl + 1) (q.set D pl x) = q.marks x (q.n - (k + 1)) (k + 1) (q.set F k x)) := hide (by rw [HF.out, Hms.out, h8, if_pos rfl])
                          go_upto_region 31 with fail
                          go_region
                          go_wp2_with fail
                          refine Hset6.out.mono ?_
                          rintro e9 w9 ⟨rfl, hb9, hg9⟩
                          have hg10 := (hg6.drewN 1).trans hg9
                          go_wp2_with fail
                          go_roundw
                          case rel => exact ⟨k + 1, _, by omega, by go_num, HF2, hb9, hg10⟩
                          case measure => simp [intOf]; omega
                        | false =>
                          have HF2 : Hid (q.marks x (q.n - (pl + 1)) (pl + 1) (q.set D pl x) = F) := hide (by rw [HF.out, Hms.out, h8]; rfl)
                          go_upto_region 31 with fail
                          go_region
                          go_wp2_with fail
                          go_roundw
                          case rel => exact ⟨j + 1, F, by omega, by go_num, hide (HF2.out.symm.trans HT2.out), hb6.blk.drewN 1, hg6.drewN 1⟩
                          case measure => simp [intOf]; omega
                      · obtain rfl : k = q.n := by omega
                        have HF2 : Hid (q.marks x (q.n - (pl + 1)) (pl + 1) (q.set D pl x) = F) := hide (by rw [HF.out, Nat.sub_self]; rfl)
                        go_upto_region 31 with fail
                        go_region
                        go_wp2_with fail
                        go_roundw
                        case rel => exact ⟨j + 1, F, by omega, by go_num, hide (HF2.out.symm.trans HT2.out), hb6.blk.drewN 1, hg6.drewN 1⟩
                        case measure => simp [intOf]; omega
                · obtain rfl : j = 2 := by omega
                  go_wp2_with fail
                  go_roundw
                  case rel => exact ⟨i + 1, by omega, by go_num, by rw [hst2.out, ← show D = q.mark x b (q.mark x a E) from HD.out]; exact hbi, Hg4.out.trans hgr⟩
                  case measure => simp [intOf]; omega
    · obtain rfl : i = N := by omega
      go_wp2_with fail
      refine bodyPost_end (results_none rfl _ _ _) rfl ?_
      exact ⟨rfl, by rw [Hpr.out]; exact hbi, Hc1.out.trans hgr⟩
end
end Go.Proofs.YtdikfldogmbeaaaDoor.Bd
