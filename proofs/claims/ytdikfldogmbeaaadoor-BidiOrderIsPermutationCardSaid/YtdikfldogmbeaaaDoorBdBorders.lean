/- The contract of (*seq).borders. -/
import Derived.Test.YtdikfldogmbeaaaDoorBdImplicit
import Derived.Test.YtdikfldogmbeaaaDoorBdOrder
namespace Go.Proofs.YtdikfldogmbeaaaDoor.Bd
open Go.RowKit Go.Frm

/-- what is ahead of a sequence and behind it -/
def bgOf (q : Sq) (O : Nat → Bool) (L : Nat → Int) (base : Int) : Int := side (mx (prevL O L base (q.A 0)) q.lv)
def lastA (q : Sq) : Nat := q.A (q.n - 1)
def afterOf (q : Sq) (O : Nat → Bool) (L M : Nat → Int) (base : Int) (n : Nat) : Int := if iso (q.W (lastA q)) = true ∧ M (lastA q) < 0 then base else nextL O L base (n - (lastA q + 1)) (lastA q + 1)
def enOf (q : Sq) (O : Nat → Bool) (L M : Nat → Int) (base : Int) (n : Nat) : Int := side (mx (afterOf q O L M base n) q.lv)
theorem prevL_bd {O : Nat → Bool} {L : Nat → Int} {base : Int} (hb : 0 ≤ base ∧ base ≤ 1000) : ∀ i, (∀ j, j < i → 0 ≤ L j ∧ L j ≤ 1000) → 0 ≤ prevL O L base i ∧ prevL O L base i ≤ 1000
  | 0, _ => hb
  | i + 1, h => by
    unfold prevL
    split
    · exact prevL_bd hb i (fun j hj => h j (by omega))
    · exact h i (by omega)
theorem nextL_bd {O : Nat → Bool} {L : Nat → Int} {base : Int} (hb : 0 ≤ base ∧ base ≤ 1000) : ∀ r i, (∀ j, j < i + r → 0 ≤ L j ∧ L j ≤ 1000) → 0 ≤ nextL O L base r i ∧ nextL O L base r i ≤ 1000
  | 0, _, _ => hb
  | r + 1, i, h => by
    unfold nextL
    split
    · exact nextL_bd hb r (i + 1) (fun j hj => h j (by omega))
    · exact h i (by omega)
section
variable {w w' : World} {s G ga ca gw : Nat} {q : Sq} {At : Option Addr} {ct n gc gl : Nat} {base : Int} {go gm : Nat} {C : Nat → Int}
set_option maxRecDepth 100000 in
set_option maxHeartbeats 8000000 in
theorem borders_ok (h : QM w s G ga ca gw q At ct n gc gl base go (.slice (some ⟨gm, 0, none⟩) n n) C) (O : Nat → Bool) (L M : Nat → Int) (hO : BB w go n O) (hL : BI w gl n L) (hM : BI w gm n M) (hn : n ≤ 100000) (hp : 0 < q.n) (hm : q.n ≤ 100000)
    (hlb : ∀ i, i < n → 0 ≤ L i ∧ L i ≤ 1000) (hb : 0 ≤ base ∧ base ≤ 1) (hlv : 0 ≤ q.lv ∧ q.lv ≤ 1000) :
    Calls Tryd.prog 35 #[.pointer (some ⟨s, 0, none⟩)] w fun e w' => e = .returned (.tuple #[]) ∧
      Blk w' s 65 (sqC G ga { q with bg := bgOf q O L base, en := enOf q O L M base n } ca gw n) ∧ Chg (Is s) w w' := by
  obtain ⟨B1, HB1⟩ : ∃ x, Hid (x = prevL O L base (q.A 0)) := ⟨_, rfl⟩
  obtain ⟨B2, HB2⟩ : ∃ x, Hid (x = afterOf q O L M base n) := ⟨_, rfl⟩
  obtain ⟨la, Hla⟩ : ∃ x, Hid (x = lastA q) := ⟨_, rfl⟩
  have H := hide h
  have HO := hide hO
  have HL := hide hL
  have HM := hide hM
  have Hlb := hide hlb
  have hA0 := h.lt 0 hp
  have hla : la < n := by rw [Hla.out]; exact h.lt _ (by omega)
  have hb1 : 0 ≤ B1 ∧ B1 ≤ 1000 := by rw [HB1.out]; exact prevL_bd ⟨hb.1, by omega⟩ _ (fun j hj => hlb j (by omega))
  have hb2 : 0 ≤ B2 ∧ B2 ≤ 1000 := by
    rw [HB2.out]
    unfold afterOf
    split
    · exact ⟨hb.1, by omega⟩
    · rw [← Hla.out]
      exact nextL_bd ⟨hb.1, by omega⟩ _ _ (fun j hj => hlb j (by omega))
  have HB2' : Hid (B2 = if iso (q.W la) = true ∧ M la < 0 then base else nextL O L base (n - (la + 1)) (la + 1)) := hide (by rw [HB2.out, afterOf, ← Hla.out])
  have s0 := h.s0
  have s1 := h.s1
  have s2 := h.s2
  have s3 := h.s3
  have p0 : w.cell? ⟨G, 0, none⟩ = some (.slice At n ct) := h.pa.cell 0
  have p2 : w.cell? ⟨G, 2, none⟩ = some (.slice (some ⟨gl, 0, none⟩) n n) := h.pa.cell 2
  have p3 : w.cell? ⟨G, 3, none⟩ = some (.int .i64 base) := h.pa.cell 3
  have p4 : w.cell? ⟨G, 4, none⟩ = some (.slice (some ⟨go, 0, none⟩) n n) := h.pa.cell 4
  have p5 : w.cell? ⟨G, 5, none⟩ = some (.slice (some ⟨gm, 0, none⟩) n n) := h.pa.cell 5
  have hs := h.sb.lt
  have hG := h.pa.lt
  have a0 := h.at_ hp
  have al : w.cell? ⟨ga, q.n - 1, none⟩ = some (.int .i64 (la : Int)) := by rw [Hla.out]; exact h.at_ (by omega)
  have ol := h.own hla
  have ml := hM.cell hla
  clear h hO hL hM hlb
  go_enter Tryd.func35, Tryd.ntmps35
  go_wp2_with fail
  go_quiet (fail)
  go_upto_block 0 with fail
  go_cut [2] (fun v wc => v = .int .i64 B1 ∧ ∃ d, wc = w.drewN d)
  case first => as_aux_lemma =>
    go_wp2_with fail
    go_loopw [2, 4] (fun b2 a wr => ∃ j d : Nat, j ≤ q.A 0 ∧ b2 = .int .i64 base ∧ a = .int .i64 ((j : Int) - 1) ∧ Hid (B1 = prevL O L base j) ∧ wr = w.drewN d) (fun _ a _ => (intOf a + 1).toNat)
    case atStart => exact ⟨q.A 0, nq, Nat.le_refl _, rfl, rfl, HB1, rfl⟩
    case round =>
      obtain ⟨j, d, hj, rfl, rfl, HJ, rfl⟩ := hrel
      cases j with
      | zero =>
        have H2 : Hid (B1 = base) := hide HJ.out
        go_wp2_with fail
        go_meet
        exact ⟨by rw [H2.out], d, by first | rfl | trivial⟩
      | succ j =>
        have hst := hide (HJ.out.trans (show prevL O L base (j + 1) = if O j = true then prevL O L base j else L j from rfl))
        have co := HO.out.cell (j := j) (by omega)
        have cl := HL.out.cell (j := j) (by omega)
        have i1 : ((j + 1 : Nat) : Int) - 1 = (j : Int) := by omega
        have hjn : j < n := by omega
        rw [i1]
        generalize O j = b at *
        generalize L j = x at *
        cases b with
        | true =>
          have H2 : Hid (B1 = prevL O L base j) := hide hst.out
          go_wp2_with fail
          go_roundw
          case rel => exact ⟨j, d, by omega, rfl, by go_num, H2, by first | rfl | trivial⟩
          case measure => simp [intOf]
        | false =>
          have H2 : Hid (B1 = x) := hide hst.out
          go_wp2_with fail
          go_meet
          exact ⟨by rw [H2.out], d, by first | rfl | trivial⟩
  case rest =>
    obtain ⟨rfl, d, rfl⟩ := hcut
    go_upto_region 6 with fail
    go_cut [5] (fun v wc => v = .int .i64 la ∧ ∃ d, wc = w.drewN d)
    case first => as_aux_lemma =>
      have i1 : (q.n : Int) - 1 = ((q.n - 1 : Nat) : Int) := by omega
      have i2 : q.n - 1 < q.n := by omega
      have i3 : ((q.n - 1 : Nat) : Int) < (q.n : Int) := by omega
      have qk : IntKind.i64.wrap ((q.n - 1 : Nat) : Int) = ((q.n - 1 : Nat) : Int) := IntWalk.i64_in _ (by omega)
      go_quiet (fail)
      go_wp2_with fail
      go_meet
      exact ⟨rfl, d + nq, by first | rfl | rw [World.drewN_drewN]⟩
    case rest =>
      obtain ⟨rfl, d2, rfl⟩ := hcut
      obtain ⟨tb, Htb⟩ : ∃ x : Bool, Hid (x = (!iso (q.W la) || decide (0 ≤ M la))) := ⟨_, rfl⟩
      have HB2b : Hid (B2 = if tb = true then nextL O L base (n - (la + 1)) (la + 1) else base) := hide (by
        rw [HB2'.out, Htb.out]
        cases iso (q.W la) with
        | false => simp
        | true =>
          by_cases h : 0 ≤ M la
          · rw [if_neg (by omega), if_pos (by simpa using h)]
          · rw [if_pos ⟨rfl, by omega⟩, if_neg (by simpa using h)])
      go_upto_region 7 with fail
      go_cut [86] (fun v wc => v = .bool tb ∧ ∃ d, wc = w.drewN d)
      case first => as_aux_lemma =>
        have Hi := hide (isolate_ok (q.W la))
        generalize q.W la = u at *
        cases hu : iso u with
        | false =>
          have hx : Hid (tb = true) := hide (by rw [Htb.out, hu]; rfl)
          rw [hu] at Hi
          clear Htb
          go_wp2_with (go_at_call 32; refine (Hi.out _).mono ?_; rintro e9 w9 ⟨rfl, rfl⟩)
          go_meet
          exact ⟨by rw [hx.out], d2, by first | rfl | trivial⟩
        | true =>
          have hx : Hid (tb = decide (0 ≤ M la)) := hide (by rw [Htb.out, hu]; rfl)
          rw [hu] at Hi
          clear Htb
          generalize M la = m at *
          go_wp2_with (go_at_call 32; refine (Hi.out _).mono ?_; rintro e9 w9 ⟨rfl, rfl⟩)
          go_meet
          exact ⟨by rw [hx.out], d2, by first | rfl | trivial⟩
      case rest =>
        obtain ⟨rfl, d3, rfl⟩ := hcut
        go_upto_if 86 with fail
        go_cut [3] (fun v wc => v = .int .i64 B2 ∧ ∃ d, wc = w.drewN d)
        case first => as_aux_lemma =>
          cases tb with
          | false =>
            have H2 : Hid (B2 = base) := hide HB2b.out
            go_wp2_with fail
            go_meet
            exact ⟨by rw [H2.out], d3, by first | rfl | trivial⟩
          | true =>
            have H2 : Hid (B2 = nextL O L base (n - (la + 1)) (la + 1)) := hide HB2b.out
            go_wp2_with fail
            go_loopw [3, 6] (fun b3 a wr => ∃ j d : Nat, la + 1 ≤ j ∧ j ≤ n ∧ b3 = .int .i64 base ∧ a = .int .i64 j ∧ Hid (B2 = nextL O L base (n - j) j) ∧ wr = w.drewN d) (fun _ a _ => n - (intOf a).toNat)
            case atStart => exact ⟨la + 1, d3, Nat.le_refl _, by omega, rfl, by go_num, H2, rfl⟩
            case round =>
              obtain ⟨j, d, hj1, hj2, rfl, rfl, HJ, rfl⟩ := hrel
              by_cases hjn : j < n
              · have hst := hide (HJ.out.trans (show nextL O L base (n - j) j = if O j = true then nextL O L base (n - (j + 1)) (j + 1) else L j by
                  rw [show n - j = (n - (j + 1)) + 1 by omega]
                  rfl))
                have co := HO.out.cell hjn
                have cl := HL.out.cell hjn
                generalize O j = b at *
                generalize L j = x at *
                cases b with
                | true =>
                  have H3 : Hid (B2 = nextL O L base (n - (j + 1)) (j + 1)) := hide hst.out
                  go_wp2_with fail
                  go_roundw
                  case rel => exact ⟨j + 1, d, by omega, by omega, rfl, by go_num, H3, by first | rfl | trivial⟩
                  case measure => simp [intOf]; omega
                | false =>
                  have H3 : Hid (B2 = x) := hide hst.out
                  go_wp2_with fail
                  go_meet
                  exact ⟨by rw [H3.out], d, by first | rfl | trivial⟩
              · obtain rfl : j = n := by omega
                have H3 : Hid (B2 = base) := hide (by rw [HJ.out, Nat.sub_self]; rfl)
                go_wp2_with fail
                go_meet
                exact ⟨by rw [H3.out], d, by first | rfl | trivial⟩
        case rest =>
          obtain ⟨rfl, d4, rfl⟩ := hcut
          have m1 : 0 ≤ mx B1 q.lv ∧ mx B1 q.lv ≤ 1000 := by unfold mx; split <;> omega
          have m2 : 0 ≤ mx B2 q.lv ∧ mx B2 q.lv ≤ 1000 := by unfold mx; split <;> omega
          obtain ⟨e1, He1⟩ : ∃ x, Hid (x = side (mx B1 q.lv)) := ⟨_, rfl⟩
          obtain ⟨e2, He2⟩ : ∃ x, Hid (x = side (mx B2 q.lv)) := ⟨_, rfl⟩
          have Hbg : Hid (bgOf q O L base = e1) := hide (by rw [He1.out, HB1.out]; rfl)
          have Hen : Hid (enOf q O L M base n = e2) := hide (by rw [He2.out, HB2.out]; rfl)
          have c4 := H.out.s4
          have c5 := H.out.s5
          have f4 := H.out.sb.frozen 4
          have f5 := H.out.sb.frozen 5
          have Hset : Hid (∀ d, Blk (((w.drewN d).setCell ⟨s, 4, none⟩ (.int .i64 e1)).setCell ⟨s, 5, none⟩ (.int .i64 e2)) s 65 (sqC G ga { q with bg := e1, en := e2 } ca gw n)) := hide (fun d => ((H.out.sb.drewN d).set_ 4 (.int .i64 e1)).set_ 5 (.int .i64 e2))
          have Hchg : Hid (∀ d, Chg (Is s) w (((w.drewN d).setCell ⟨s, 4, none⟩ (.int .i64 e1)).setCell ⟨s, 5, none⟩ (.int .i64 e2))) := hide (fun d => (((Chg.refl _ w).drewN d).setCell (p := ⟨s, 4, none⟩) (.inl (show Is s s from rfl)) _).setCell (p := ⟨s, 5, none⟩) (.inl (show Is s s from rfl)) _)
          by_cases h1 : B1 < q.lv
          · by_cases h2 : B2 < q.lv
            · have e12 : e1 = e2 := by rw [He1.out, He2.out, ← mx_eq, ← mx_eq, if_pos h1, if_pos h2]
              subst e12
              have hs1 := side_ok q.lv (by omega) (by omega)
              rw [show side q.lv = e1 by rw [He1.out, ← mx_eq, if_pos h1]] at hs1
              have Hs1 := hide hs1
              clear hs1
              clear m1 m2
              go_upto_region 13 with fail
              go_region_held3 (fun w' => w'.cell? ⟨s, 3, none⟩ = some (.int .i64 q.lv))
                (first | go_keep | exact s3 | exact cell_other s3 (by decide) | exact cell_other (cell_other s3 (by decide)) (by decide))
                ((go_at_call 40; first | ((with_reducible refine (Hs1.out _).mono ?_); rintro e9 w9 ⟨rfl, rfl⟩)))
              all_goals
                go_wp2_with fail
                refine bodyPost_end (results_none rfl _ _ _) rfl ?_
                exact ⟨rfl, by rw [Hbg.out, Hen.out]; exact Hset.out _, Hchg.out _⟩
            · have hs1 := side_ok q.lv (by omega) (by omega)
              rw [show side q.lv = e1 by rw [He1.out, ← mx_eq, if_pos h1]] at hs1
              have Hs1 := hide hs1
              clear hs1
              have hs2 := side_ok B2 (by omega) (by omega)
              rw [show side B2 = e2 by rw [He2.out, ← mx_eq, if_neg h2]] at hs2
              have Hs2 := hide hs2
              clear hs2
              have ht2 := side_ok (if B2 < q.lv then q.lv else B2) (by rw [if_neg h2]; omega) (by rw [if_neg h2]; omega)
              rw [show side (if B2 < q.lv then q.lv else B2) = e2 by rw [He2.out, ← mx_eq]] at ht2
              have Ht2 := hide ht2
              clear ht2
              clear m1 m2
              go_upto_region 13 with fail
              go_region_held3 (fun w' => w'.cell? ⟨s, 3, none⟩ = some (.int .i64 q.lv))
                (first | go_keep | exact s3 | exact cell_other s3 (by decide) | exact cell_other (cell_other s3 (by decide)) (by decide))
                ((go_at_call 40; first | ((with_reducible refine (Hs1.out _).mono ?_); rintro e9 w9 ⟨rfl, rfl⟩) | ((with_reducible refine (Hs2.out _).mono ?_); rintro e9 w9 ⟨rfl, rfl⟩) | ((with_reducible refine (Ht2.out _).mono ?_); rintro e9 w9 ⟨rfl, rfl⟩)))
              all_goals
                go_wp2_with fail
                refine bodyPost_end (results_none rfl _ _ _) rfl ?_
                exact ⟨rfl, by rw [Hbg.out, Hen.out]; exact Hset.out _, Hchg.out _⟩
          · by_cases h2 : B2 < q.lv
            · have hs1 := side_ok B1 (by omega) (by omega)
              rw [show side B1 = e1 by rw [He1.out, ← mx_eq, if_neg h1]] at hs1
              have Hs1 := hide hs1
              clear hs1
              have ht1 := side_ok (if B1 < q.lv then q.lv else B1) (by rw [if_neg h1]; omega) (by rw [if_neg h1]; omega)
              rw [show side (if B1 < q.lv then q.lv else B1) = e1 by rw [He1.out, ← mx_eq]] at ht1
              have Ht1 := hide ht1
              clear ht1
              have hs2 := side_ok q.lv (by omega) (by omega)
              rw [show side q.lv = e2 by rw [He2.out, ← mx_eq, if_pos h2]] at hs2
              have Hs2 := hide hs2
              clear hs2
              clear m1 m2
              go_upto_region 13 with fail
              go_region_held3 (fun w' => w'.cell? ⟨s, 3, none⟩ = some (.int .i64 q.lv))
                (first | go_keep | exact s3 | exact cell_other s3 (by decide) | exact cell_other (cell_other s3 (by decide)) (by decide))
                ((go_at_call 40; first | ((with_reducible refine (Hs1.out _).mono ?_); rintro e9 w9 ⟨rfl, rfl⟩) | ((with_reducible refine (Ht1.out _).mono ?_); rintro e9 w9 ⟨rfl, rfl⟩) | ((with_reducible refine (Hs2.out _).mono ?_); rintro e9 w9 ⟨rfl, rfl⟩)))
              all_goals
                go_wp2_with fail
                refine bodyPost_end (results_none rfl _ _ _) rfl ?_
                exact ⟨rfl, by rw [Hbg.out, Hen.out]; exact Hset.out _, Hchg.out _⟩
            · have hs1 := side_ok B1 (by omega) (by omega)
              rw [show side B1 = e1 by rw [He1.out, ← mx_eq, if_neg h1]] at hs1
              have Hs1 := hide hs1
              clear hs1
              have ht1 := side_ok (if B1 < q.lv then q.lv else B1) (by rw [if_neg h1]; omega) (by rw [if_neg h1]; omega)
              rw [show side (if B1 < q.lv then q.lv else B1) = e1 by rw [He1.out, ← mx_eq]] at ht1
              have Ht1 := hide ht1
              clear ht1
              have hs2 := side_ok B2 (by omega) (by omega)
              rw [show side B2 = e2 by rw [He2.out, ← mx_eq, if_neg h2]] at hs2
              have Hs2 := hide hs2
              clear hs2
              have ht2 := side_ok (if B2 < q.lv then q.lv else B2) (by rw [if_neg h2]; omega) (by rw [if_neg h2]; omega)
              rw [show side (if B2 < q.lv then q.lv else B2) = e2 by rw [He2.out, ← mx_eq]] at ht2
              have Ht2 := hide ht2
              clear ht2
              clear m1 m2
              go_upto_region 13 with fail
              go_region_held3 (fun w' => w'.cell? ⟨s, 3, none⟩ = some (.int .i64 q.lv))
                (first | go_keep | exact s3 | exact cell_other s3 (by decide) | exact cell_other (cell_other s3 (by decide)) (by decide))
                ((go_at_call 40; first | ((with_reducible refine (Hs1.out _).mono ?_); rintro e9 w9 ⟨rfl, rfl⟩) | ((with_reducible refine (Ht1.out _).mono ?_); rintro e9 w9 ⟨rfl, rfl⟩) | ((with_reducible refine (Hs2.out _).mono ?_); rintro e9 w9 ⟨rfl, rfl⟩) | ((with_reducible refine (Ht2.out _).mono ?_); rintro e9 w9 ⟨rfl, rfl⟩)))
              all_goals
                go_wp2_with fail
                refine bodyPost_end (results_none rfl _ _ _) rfl ?_
                exact ⟨rfl, by rw [Hbg.out, Hen.out]; exact Hset.out _, Hchg.out _⟩
end
end Go.Proofs.YtdikfldogmbeaaaDoor.Bd
