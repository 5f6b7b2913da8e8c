/- The contract of lines.Fill. -/
import Derived.Test.YtmjhmcjlbcadaaaLnCheck
import Derived.Test.YtmjhmcjlbcadaaaLnFillPlain
import Derived.BigQuiet
import Derived.Deep.CutBlock
namespace Go.Proofs.Ytmjhmcjlbcadaaa.Ln
open Go.RowKit Go.Frm

def Filled (L : List Int) (w : World) (e : Ending) (w' : World) : Prop :=
  ∃ A c, e = .returned (.tuple #[.slice A L.length c, .int .i64 0]) ∧ w'.ownsRow w.heap.size 3 1 (.slice A L.length c) L.length (L.map (Value.int .i64)) ∧ Below w.heap.size w w'
theorem fint_info : (Try.prog.info? 3).map (fun i => (i.zero, i.size, i.bytes)) = some (some (.int .i64 0), 1, 8) := by kernel_rfl
theorem part_at {w : World} {b off n : Nat} {P : Pts} (hr : RdF w (some ⟨b, off, none⟩) n 6 (ptV P)) {fr j : Nat} (h : fr + j < n) :
    w.cell? ⟨b, off + fr * 6 + j * 6, none⟩ = some (.int .i64 (P.kd (fr + j))) ∧ w.cell? ⟨b, off + fr * 6 + j * 6 + 1, none⟩ = some (.int .i64 (P.wd (fr + j))) ∧ w.cell? ⟨b, off + fr * 6 + j * 6 + 2, none⟩ = some (.int .i64 (P.st (fr + j))) ∧
    w.cell? ⟨b, off + fr * 6 + j * 6 + 3, none⟩ = some (.int .i64 (P.sh (fr + j))) ∧ w.cell? ⟨b, off + fr * 6 + j * 6 + 4, none⟩ = some (.int .i64 (P.co (fr + j))) ∧ w.cell? ⟨b, off + fr * 6 + j * 6 + 5, none⟩ = some (.bool (P.fl (fr + j))) := by
  obtain ⟨b', off', hA, hc⟩ := hr.at_ h
  injection hA with hA
  injection hA with hA hA'
  subst hA hA'
  have e : off + fr * 6 + j * 6 = off + (fr + j) * 6 := by omega
  rw [e]
  exact ⟨hc 0 (by omega), hc 1 (by omega), hc 2 (by omega), hc 3 (by omega), hc 4 (by omega), hc 5 (by omega)⟩
set_option maxRecDepth 100000 in
set_option maxHeartbeats 8000000 in
theorem Fill_ok (b off : Nat) (P : Pts) (c : Nat) (x : Lin) (q2 q3 q4 : Int) (w : World) (hr : RdF w (some ⟨b, off, none⟩) P.n 6 (ptV P)) (hc : P.n ≤ c ∧ c ≤ 9223372036854775807) (hv : VP P) (hx : IsLine P x) (hlt : x.fr < P.n) :
    Calls Try.prog 13 #[.slice (some ⟨b, off, none⟩) P.n c, .agg #[.int .i64 x.fr, .int .i64 x.en, .int .i64 q2, .int .i64 q3, .int .i64 q4, .int .i64 x.wid], .bool true] w (Filled (fOut P x (x.en - x.fr)) w) := by
  have few := hv.few
  have x1 := hx.fr
  have x2 := hx.en
  have x3 := hx.wid
  obtain ⟨x4, x5⟩ := x3
  obtain ⟨c1, c2⟩ := hc
  have x6 : x.fr < c := by omega
  have x7 : ¬ c = x.fr := by omega
  have k1 : decide ((x.fr : Int) < 0) = false := decide_eq_false (by omega)
  have k2 : decide (x.en < x.fr) = false := decide_eq_false (by omega)
  have k3 : decide (P.n < x.en) = false := decide_eq_false (by omega)
  have k4 : decide (x.wid < 1) = false := decide_eq_false (by omega)
  have k5 : decide ((100000 : Int) < x.wid) = false := decide_eq_false (by omega)
  have hbl0 := (Below.refl w.heap.size w).alloc (Nat.le_refl _) (.cells #[.int .i64 x.fr, .int .i64 x.en, .int .i64 q2, .int .i64 q3, .int .i64 q4, .int .i64 x.wid] 35)
  have bx0 := Blk.new w 35 #[.int .i64 x.fr, .int .i64 x.en, .int .i64 q2, .int .i64 q3, .int .i64 q4, .int .i64 x.wid]
  have hr0 := hr.below hbl0
  have Hck := hide (Check_ok (some ⟨b, off, none⟩) P c _ hr0 hv)
  have Hv := hide (And.intro hv hx)
  clear hv hx hr
  go_enter Try.func13, Try.ntmps13
  go_wp2_with fail
  generalize w.alloc (.cells #[.int .i64 x.fr, .int .i64 x.en, .int .i64 q2, .int .i64 q3, .int .i64 q4, .int .i64 x.wid] 35) = w0 at *
  obtain ⟨M, hM⟩ : ∃ M, M = w.heap.size := ⟨_, rfl⟩
  have Hw := hide hM
  rw [← hM] at bx0 hbl0
  simp only [← hM]
  clear hM
  refine Hck.out.mono ?_
  rintro e w1 ⟨rfl, hb1⟩
  have bx1 := bx0.below hb1 bx0.lt
  have hr1 := hr0.below hb1
  have hbl1 : Below M w w1 := hbl0.trans (hb1.mono (Nat.le_of_lt bx0.lt))
  clear Hck hr0 bx0 hbl0 hb1
  have m0 : w1.cell? ⟨M, 0, none⟩ = some (.int .i64 x.fr) := bx1.cell 0
  have m1 : w1.cell? ⟨M, 1, none⟩ = some (.int .i64 x.en) := bx1.cell 1
  have m5 : w1.cell? ⟨M, 5, none⟩ = some (.int .i64 x.wid) := bx1.cell 5
  go_wp2_with fail
  clear k1 k2 k3 k4 k5
  go_loopw [9, 10, 11, 62] (fun a1 a2 a3 a4 wr => ∃ j : Nat, j ≤ x.en - x.fr ∧ a4 = .int .i64 j ∧ a1 = .int .i64 (sW P (x.fr + j) - sW P x.fr) ∧ a2 = .int .i64 (sG P (x.fr + j) - sG P x.fr) ∧ a3 = .int .i64 (sY P (x.fr + j) - sY P x.fr) ∧ Below w1.heap.size w1 wr) (fun _ _ _ a4 _ => (x.en - x.fr) - (intOf a4).toNat)
  case atStart => exact ⟨0, by omega, rfl, by simp, by simp, by simp, Below.refl _ _⟩
  case round =>
    obtain ⟨j, hj, rfl, rfl, rfl, rfl, hb2⟩ := hrel
    by_cases hjl : j < x.en - x.fr
    · have hr2 := hr1.below hb2
      obtain ⟨e0, e1, e2, e3, e4, e5⟩ := part_at hr2 (show x.fr + j < P.n by omega)
      go_upto_region 10 with fail
      have hb3 := hb2.alloc hb2.size (.cells #[.int .i64 (P.kd (x.fr + j)), .int .i64 (P.wd (x.fr + j)), .int .i64 (P.st (x.fr + j)), .int .i64 (P.sh (x.fr + j)), .int .i64 (P.co (x.fr + j)), .bool (P.fl (x.fr + j))] 39)
      have bp := Blk.new wr 39 #[.int .i64 (P.kd (x.fr + j)), .int .i64 (P.wd (x.fr + j)), .int .i64 (P.st (x.fr + j)), .int .i64 (P.sh (x.fr + j)), .int .i64 (P.co (x.fr + j)), .bool (P.fl (x.fr + j))]
      clear e0 e1 e2 e3 e4 e5 hr2 hb2
      generalize wr.alloc (.cells #[.int .i64 (P.kd (x.fr + j)), .int .i64 (P.wd (x.fr + j)), .int .i64 (P.st (x.fr + j)), .int .i64 (P.sh (x.fr + j)), .int .i64 (P.co (x.fr + j)), .bool (P.fl (x.fr + j))] 39) = wp at *
      generalize wr.heap.size = X at *
      have f0 : wp.cell? ⟨X, 0, none⟩ = some (.int .i64 (P.kd (x.fr + j))) := bp.cell 0
      have f1 : wp.cell? ⟨X, 1, none⟩ = some (.int .i64 (P.wd (x.fr + j))) := bp.cell 1
      have f2 : wp.cell? ⟨X, 2, none⟩ = some (.int .i64 (P.st (x.fr + j))) := bp.cell 2
      have f3 : wp.cell? ⟨X, 3, none⟩ = some (.int .i64 (P.sh (x.fr + j))) := bp.cell 3
      have w1' := sW_mono Hv.out.1 (show x.fr ≤ x.fr + j by omega) (show x.fr + j ≤ P.n by omega)
      have w2' := sW_bd Hv.out.1 (x.fr + j) (by omega)
      have w3' := sW_bd Hv.out.1 x.fr (by omega)
      have g1' := sG_mono Hv.out.1 (show x.fr ≤ x.fr + j by omega) (show x.fr + j ≤ P.n by omega)
      have g2' := sG_bd Hv.out.1 (x.fr + j) (by omega)
      have g3' := sG_bd Hv.out.1 x.fr (by omega)
      have y1' := sY_mono Hv.out.1 (show x.fr ≤ x.fr + j by omega) (show x.fr + j ≤ P.n by omega)
      have y2' := sY_bd Hv.out.1 (x.fr + j) (by omega)
      have y3' := sY_bd Hv.out.1 x.fr (by omega)
      have t1' := Hv.out.1.wide (x.fr + j) (by omega)
      have t2' := Hv.out.1.str (x.fr + j) (by omega)
      have t3' := Hv.out.1.shr (x.fr + j) (by omega)
      have Hs1 : Hid (sW P (x.fr + (j + 1)) - sW P x.fr = sW P (x.fr + j) - sW P x.fr + if P.kd (x.fr + j) = 2 then 0 else P.wd (x.fr + j)) := hide (by rw [← Nat.add_assoc]; show sW P (x.fr + j) + _ - _ = _; omega)
      have Hs2 : Hid (sG P (x.fr + (j + 1)) - sG P x.fr = sG P (x.fr + j) - sG P x.fr + P.st (x.fr + j)) := hide (by rw [← Nat.add_assoc]; show sG P (x.fr + j) + _ - _ = _; omega)
      have Hs3 : Hid (sY P (x.fr + (j + 1)) - sY P x.fr = sY P (x.fr + j) - sY P x.fr + P.sh (x.fr + j)) := hide (by rw [← Nat.add_assoc]; show sY P (x.fr + j) + _ - _ = _; omega)
      obtain ⟨a1, ha1⟩ : ∃ a, a = sW P (x.fr + j) - sW P x.fr := ⟨_, rfl⟩
      obtain ⟨a2, ha2⟩ : ∃ a, a = sG P (x.fr + j) - sG P x.fr := ⟨_, rfl⟩
      obtain ⟨a3, ha3⟩ : ∃ a, a = sY P (x.fr + j) - sY P x.fr := ⟨_, rfl⟩
      have b1 : 0 ≤ a1 ∧ a1 ≤ 300000 := by omega
      have b2 : 0 ≤ a2 ∧ a2 ≤ 300000 := by omega
      have b3 : 0 ≤ a3 ∧ a3 ≤ 300000 := by omega
      rw [← ha1] at Hs1 ⊢
      rw [← ha2] at Hs2 ⊢
      rw [← ha3] at Hs3 ⊢
      clear ha1 ha2 ha3 w1' w2' w3' g1' g2' g3' y1' y2' y3' bp
      generalize P.kd (x.fr + j) = kd at *
      generalize P.wd (x.fr + j) = wd at *
      generalize P.st (x.fr + j) = st at *
      generalize P.sh (x.fr + j) = sh at *
      go_upto_if 68 with fail
      go_cut [9] (fun v wc => v = .int .i64 (a1 + if kd = 2 then 0 else wd) ∧ wc = wp)
      case first =>
        by_cases hk : kd = 2
        · subst hk
          go_wp2_with fail
          go_meet
          exact ⟨by simp, rfl⟩
        · have hk2 : (kd == 2) = false := beq_eq_false_iff_ne.2 hk
          have Hk := hide hk
          clear hk
          go_wp2_with fail
          go_meet
          exact ⟨by rw [if_neg Hk.out], rfl⟩
      case rest =>
        obtain ⟨rfl, rfl⟩ := hcut
        have hq1 : IntKind.i64.wrap (a2 + st) = a2 + st := IntWalk.i64_in _ (by omega)
        have hq2 : IntKind.i64.wrap (a3 + sh) = a3 + sh := IntWalk.i64_in _ (by omega)
        have hbn : ∀ m, Below w1.heap.size w1 (wc.drewN m) := fun m => below_drewN hb3 m
        have Hbn := hide hbn
        clear hbn hb3
        go_upto_region 12 with fail
        go_quiet (fail)
        go_wp2_with fail
        go_roundw
        case rel => exact ⟨j + 1, by omega, by go_num, by rw [Hs1.out], by rw [Hs2.out], by rw [Hs3.out], Hbn.out _⟩
        case measure => simp [intOf]; omega
    · obtain rfl : j = x.en - x.fr := by omega
      have ej : x.fr + (x.en - x.fr) = x.en := by omega
      rw [ej]
      have hr2 := hr1.below hb2
      have bx2 := bx1.below hb2 bx1.lt
      have hbl2 := hbl1.trans (hb2.mono (Nat.le_of_lt bx1.lt))
      have Hej := hide ej
      clear hr1 bx1 hbl1 m0 m1 m5 ej hj hjl hb2
      have m0 : wr.cell? ⟨M, 0, none⟩ = some (.int .i64 x.fr) := bx2.cell 0
      have m1 : wr.cell? ⟨M, 1, none⟩ = some (.int .i64 x.en) := bx2.cell 1
      have m5 : wr.cell? ⟨M, 5, none⟩ = some (.int .i64 x.wid) := bx2.cell 5
      have Had : Hid (x.nat = sW P x.en - sW P x.fr + added P x.en) := hide Hv.out.2.nat
      have Hst : Hid (x.str = sG P x.en - sG P x.fr) := hide Hv.out.2.str
      have Hsh : Hid (x.shr = sY P x.en - sY P x.fr) := hide Hv.out.2.shr
      have hbd := Hv.out.2.bd Hv.out.1
      obtain ⟨u1, u2, u3, u4, u5, u6⟩ := hbd
      rw [← Hst.out, ← Hsh.out]
      have w1' := sW_mono Hv.out.1 x1 x2
      have w2' := sW_bd Hv.out.1 x.en x2
      have w3' := sW_bd Hv.out.1 x.fr (by omega)
      obtain ⟨a1, ha1⟩ : ∃ a, a = sW P x.en - sW P x.fr := ⟨_, rfl⟩
      have b1 : 0 ≤ a1 ∧ a1 ≤ 300000 := by omega
      rw [← ha1] at Had ⊢
      clear ha1 w1' w2' w3'
      go_upto_region 14 with fail
      obtain ⟨z, hz⟩ : ∃ z : Bool, z = decide (x.en < P.n ∧ P.kd x.en = 2) := ⟨_, rfl⟩
      have Hzz := hide hz
      clear hz
      go_cut [95] (fun v wc => v = .bool z ∧ wc = wr)
      case first =>
        by_cases hen : x.en < P.n
        · obtain ⟨e0, _⟩ := part_at hr2 (fr := x.en) (j := 0) (by omega)
          simp only [Nat.zero_mul, Nat.add_zero] at e0
          have d0 : decide (x.en < P.n) = true := decide_eq_true hen
          have hz : (P.kd x.en == 2) = decide (x.en < P.n ∧ P.kd x.en = 2) := by
            by_cases h : P.kd x.en = 2
            · rw [h, decide_eq_true ⟨hen, rfl⟩]; rfl
            · rw [beq_eq_false_iff_ne.2 h, decide_eq_false (fun hh => h hh.2)]
          have Hz := hide hz
          clear hz
          go_wp2_with fail
          go_meet
          exact ⟨by rw [Hzz.out, ← Hz.out], rfl⟩
        · have d0 : decide (x.en < P.n) = false := decide_eq_false hen
          have Hen := hide hen
          clear hen
          go_wp2_with fail
          go_meet
          exact ⟨by rw [Hzz.out, decide_eq_false (fun hh => Hen.out hh.1)], rfl⟩
      case rest =>
        obtain ⟨rfl, hwc⟩ := hcut
        subst hwc
        go_upto_if 95 with fail
        go_cut [9] (fun v wd => v = .int .i64 x.nat ∧ wd = wc)
        case first =>
          by_cases hz : x.en < P.n ∧ P.kd x.en = 2
          · obtain ⟨e0, e1, _⟩ := part_at hr2 (fr := x.en) (j := 0) (by omega)
            simp only [Nat.zero_mul, Nat.add_zero] at e1
            have dz : z = true := by rw [Hzz.out]; exact decide_eq_true hz
            subst dz
            have ea : added P x.en = P.wd x.en := if_pos hz
            have hwd := Hv.out.1.wide x.en hz.1
            have hen := hz.1
            have Had2 : Hid (x.nat = a1 + P.wd x.en) := hide (by rw [Had.out, ea])
            have dw : IntKind.i64.wrap (a1 + P.wd x.en) = a1 + P.wd x.en := IntWalk.i64_in _ (by omega)
            clear ea hz e0
            go_wp2_with fail
            go_meet
            exact ⟨by rw [Had2.out], rfl⟩
          · have dz : z = false := by rw [Hzz.out]; exact decide_eq_false hz
            subst dz
            have ea : added P x.en = 0 := if_neg hz
            have Had2 : Hid (x.nat = a1) := hide (by rw [Had.out, ea, Int.add_zero])
            clear ea hz
            go_wp2_with fail
            go_meet
            exact ⟨by rw [Had2.out], rfl⟩
        case rest =>
          obtain ⟨rfl, hwd⟩ := hcut
          subst hwd
          have Hby : Hid (fBy x = if x.wid - x.nat < 0 then min (-(x.wid - x.nat)) x.shr else if x.str = 0 then 0 else x.wid - x.nat) := hide rfl
          have Hca : Hid (fCan x = if x.wid - x.nat < 0 then x.shr else x.str) := hide rfl
          have Hsg : Hid (fSg x = if x.wid - x.nat < 0 then -1 else 1) := hide rfl
          have qd : IntKind.i64.wrap (x.wid - x.nat) = x.wid - x.nat := IntWalk.i64_in _ (by omega)
          go_upto_region 18 with fail
          have hdd : -400000 ≤ x.wid - x.nat ∧ x.wid - x.nat ≤ 400000 := by omega
          generalize x.wid - x.nat = dd at *
          go_upto_if 110 with fail
          go_cut [14, 15, 16] (fun v1 v2 v3 we => v1 = .int .i64 (fBy x) ∧ v2 = .int .i64 (fCan x) ∧ v3 = .int .i64 (fSg x) ∧ we = wc)
          case first =>
            by_cases hneg : dd < 0
            · have hby : fBy x = min (-(dd)) x.shr := by rw [Hby.out, if_pos hneg]
              have hca : fCan x = x.shr := by rw [Hca.out, if_pos hneg]
              have hsg : fSg x = -1 := by rw [Hsg.out, if_pos hneg]
              have qn : IntKind.i64.wrap (-dd) = -dd := IntWalk.i64_in _ (by omega)
              have H1 := hide hby
              have H2 := hide hca
              have H3 := hide hsg
              clear hby hca hsg
              go_wp2_with fail
              all_goals
                go_meet
                exact ⟨by rw [H1.out]; congr 1; omega, by rw [H2.out], by rw [H3.out], rfl⟩
            · have hca : fCan x = x.str := by rw [Hca.out, if_neg hneg]
              have hsg : fSg x = 1 := by rw [Hsg.out, if_neg hneg]
              by_cases hs0 : x.str = 0
              · have hby : fBy x = 0 := by rw [Hby.out, if_neg hneg, if_pos hs0]
                have ds : (x.str == 0) = true := by rw [hs0]; rfl
                have dn : decide (dd < 0) = false := decide_eq_false hneg
                have H1 := hide hby
                have H2 := hide hca
                have H3 := hide hsg
                clear hby hca hsg hs0
                go_wp2_with fail
                go_meet
                exact ⟨by rw [H1.out], by rw [H2.out], by rw [H3.out], rfl⟩
              · have hby : fBy x = dd := by rw [Hby.out, if_neg hneg, if_neg hs0]
                have ds : (x.str == 0) = false := beq_eq_false_iff_ne.2 hs0
                have dn : decide (dd < 0) = false := decide_eq_false hneg
                have H1 := hide hby
                have H2 := hide hca
                have H3 := hide hsg
                clear hby hca hsg hs0
                go_wp2_with fail
                go_meet
                exact ⟨by rw [H1.out], by rw [H2.out], by rw [H3.out], rfl⟩
          case rest =>
            obtain ⟨rfl, rfl, rfl, hwe⟩ := hcut
            subst hwe
            clear Hby Hca Hsg qd Had Hst Hsh Hzz
            have hbb := fBy_bd Hv.out.2 Hv.out.1
            have hcb := fCan_bd Hv.out.2 Hv.out.1
            have hsgn : fSg x = 1 ∨ fSg x = -1 := by unfold fSg; split <;> simp
            have hsy : (fSg x < 0) = (x.wid - x.nat < 0) := by unfold fSg; split <;> simp_all
            obtain ⟨p1, p2, p3⟩ := hbb
            clear p3
            obtain ⟨by_, hby⟩ : ∃ b, fBy x = b := ⟨_, rfl⟩
            obtain ⟨can, hca⟩ : ∃ b, fCan x = b := ⟨_, rfl⟩
            obtain ⟨sg, hsg⟩ : ∃ b, fSg x = b := ⟨_, rfl⟩
            rw [hby] at p1 p2 ⊢
            rw [hca] at hcb ⊢
            rw [hsg] at hsgn hsy ⊢
            have Hsy := hide hsy
            have Hby := hide hby
            have Hca := hide hca
            have Hsg := hide hsg
            clear hsy hby hca hsg
            go_upto_region 24 with fail
            go_wp2_with fail
            have dzero : fDone P x 0 = 0 := by unfold fDone; split <;> simp
            go_loopw [17, 18, 129] (fun a1 a2 a3 wr => ∃ j : Nat, j ≤ x.en - x.fr ∧ a3 = .int .i64 j ∧ a2 = .int .i64 (fDone P x j) ∧ wr.ownsRow wc.heap.size 3 1 a1 (fOut P x j).length ((fOut P x j).map (Value.int .i64)) ∧ Below wc.heap.size wc wr) (fun _ _ a3 _ => (x.en - x.fr) - (intOf a3).toNat)
            case atStart => exact ⟨0, by omega, rfl, by rw [dzero], World.ownsRow_nil _ _ _ _, Below.refl _ _⟩
            case round =>
              obtain ⟨j, hj, rfl, rfl, hown, hb3⟩ := hrel
              obtain ⟨A7, c7, rfl⟩ := own_form hown
              have hlen := fOut_len (P := P) (x := x) j
              by_cases hjl : j < x.en - x.fr
              · have hr3 := hr2.below hb3
                obtain ⟨e0, e1, e2, e3, e4, e5⟩ := part_at hr3 (show x.fr + j < P.n by omega)
                go_upto_region 27 with fail
                have hb4 := hb3.alloc hb3.size (.cells #[.int .i64 (P.kd (x.fr + j)), .int .i64 (P.wd (x.fr + j)), .int .i64 (P.st (x.fr + j)), .int .i64 (P.sh (x.fr + j)), .int .i64 (P.co (x.fr + j)), .bool (P.fl (x.fr + j))] 39)
                have own4 := hown.alloc (.cells #[.int .i64 (P.kd (x.fr + j)), .int .i64 (P.wd (x.fr + j)), .int .i64 (P.st (x.fr + j)), .int .i64 (P.sh (x.fr + j)), .int .i64 (P.co (x.fr + j)), .bool (P.fl (x.fr + j))] 39)
                have bp := Blk.new wr 39 #[.int .i64 (P.kd (x.fr + j)), .int .i64 (P.wd (x.fr + j)), .int .i64 (P.st (x.fr + j)), .int .i64 (P.sh (x.fr + j)), .int .i64 (P.co (x.fr + j)), .bool (P.fl (x.fr + j))]
                clear e0 e1 e2 e3 e4 e5 hr3 hb3 hown
                generalize wr.alloc (.cells #[.int .i64 (P.kd (x.fr + j)), .int .i64 (P.wd (x.fr + j)), .int .i64 (P.st (x.fr + j)), .int .i64 (P.sh (x.fr + j)), .int .i64 (P.co (x.fr + j)), .bool (P.fl (x.fr + j))] 39) = wp at *
                generalize wr.heap.size = X at *
                have f0 : wp.cell? ⟨X, 0, none⟩ = some (.int .i64 (P.kd (x.fr + j))) := bp.cell 0
                have f1 : wp.cell? ⟨X, 1, none⟩ = some (.int .i64 (P.wd (x.fr + j))) := bp.cell 1
                have f2 : wp.cell? ⟨X, 2, none⟩ = some (.int .i64 (P.st (x.fr + j))) := bp.cell 2
                have f3 : wp.cell? ⟨X, 3, none⟩ = some (.int .i64 (P.sh (x.fr + j))) := bp.cell 3
                clear bp
                by_cases hk : P.kd (x.fr + j) = 1
                · have hgb := glue_bd Hv.out.2 Hv.out.1 (show x.fr + j < x.en by omega)
                  have hwd := Hv.out.1.wide (x.fr + j) (by omega)
                  have hst := Hv.out.1.str (x.fr + j) (by omega)
                  have hsh := Hv.out.1.shr (x.fr + j) (by omega)
                  have hd1 := fDone_bd Hv.out.2 Hv.out.1 (show x.fr + j ≤ x.en by omega)
                  have hd2 := fDone_bd Hv.out.2 Hv.out.1 (show x.fr + (j + 1) ≤ x.en by omega)
                  have hsb := share_bd Hv.out.2 Hv.out.1 (show x.fr + j < x.en by omega)
                  have Hdz : Hid (¬ 0 < fCan x → fDone P x (j + 1) = 0 ∧ fDone P x j = 0 ∧ fShare P x j = 0) := hide (fun h => by
                    unfold fShare fDone
                    rw [if_neg h, if_neg h, if_neg h]
                    exact ⟨rfl, rfl, rfl⟩)
                  have Hdp : Hid (0 < fCan x → fDone P x (j + 1) = fDone P x j + (if x.wid - x.nat < 0 then P.sh (x.fr + j) else P.st (x.fr + j)) ∧ fShare P x j = (fBy x * fDone P x (j + 1)).tdiv (fCan x) - (fBy x * fDone P x j).tdiv (fCan x)) := hide (fun h => ⟨fDone_step h j, by unfold fShare; rw [if_pos h]⟩)
                  have Hout : Hid (fOut P x (j + 1) = fOut P x j ++ [P.wd (x.fr + j) + fSg x * fShare P x j]) := hide (by show fOut P x j ++ _ = _; rw [if_pos hk])
                  rw [hk] at f0
                  clear hk
                  simp only [Hby.out, Hca.out, Hsg.out] at hgb hd1 hd2 Hdz Hdp Hout
                  generalize hD2 : fDone P x (j + 1) = D2 at *
                  have HD2 := hide hD2
                  clear hD2
                  generalize fDone P x j = D1 at *
                  generalize fShare P x j = sr at *
                  generalize P.wd (x.fr + j) = wd at *
                  generalize P.st (x.fr + j) = st at *
                  generalize P.sh (x.fr + j) = sh at *
                  go_upto_if 137 with fail
                  go_cut [18, 21] (fun v1 v2 we => v1 = .int .i64 D2 ∧ v2 = .int .i64 sr ∧ ∃ m, we = wp.drewN m)
                  case first =>
                    by_cases hc0 : 0 < can
                    · obtain ⟨s1, s2⟩ := Hdp.out hc0
                      have Hs2 := hide s2
                      have hpart : 0 ≤ (if x.wid - x.nat < 0 then sh else st) ∧ (if x.wid - x.nat < 0 then sh else st) ≤ 300 := by split <;> omega
                      have Hpp : Hid (sg = -1 → (if x.wid - x.nat < 0 then sh else st) = sh) := hide (fun h => if_pos (by rw [← Hsy.out, h]; decide))
                      have Hpn : Hid (sg = 1 → (if x.wid - x.nat < 0 then sh else st) = st) := hide (fun h => if_neg (by rw [← Hsy.out, h]; decide))
                      clear s2
                      generalize (if x.wid - x.nat < 0 then sh else st) = part at *
                      go_upto_if 141 with fail
                      go_cut [22] (fun v we => v = .int .i64 part ∧ we = wp)
                      case first =>
                        rcases hsgn with rfl | rfl
                        · have e := Hpn.out rfl
                          have He := hide e
                          clear e
                          go_wp2_with fail
                          go_meet
                          exact ⟨by rw [He.out], rfl⟩
                        · have e := Hpp.out rfl
                          have He := hide e
                          clear e
                          go_wp2_with fail
                          go_meet
                          exact ⟨by rw [He.out], rfl⟩
                      case rest =>
                        obtain ⟨rfl, hwe⟩ := hcut
                        subst hwe
                        have n1 : 0 ≤ by_ * D1 := Int.mul_nonneg p1 hd1.1
                        have n2 : 0 ≤ by_ * D2 := Int.mul_nonneg p1 hd2.1
                        have n3 : by_ * D1 ≤ 400000 * 400000 := Int.mul_le_mul p2 (by omega) hd1.1 (by omega)
                        have n4 : by_ * D2 ≤ 400000 * 400000 := Int.mul_le_mul p2 (by omega) hd2.1 (by omega)
                        have t1 : 0 ≤ (by_ * D1).tdiv can := Int.tdiv_nonneg n1 (by omega)
                        have t2 : 0 ≤ (by_ * D2).tdiv can := Int.tdiv_nonneg n2 (by omega)
                        have t3 : (by_ * D1).tdiv can ≤ by_ * D1 := by rw [Int.tdiv_eq_ediv_of_nonneg n1]; exact Int.ediv_le_self _ n1
                        have t4 : (by_ * D2).tdiv can ≤ by_ * D2 := by rw [Int.tdiv_eq_ediv_of_nonneg n2]; exact Int.ediv_le_self _ n2
                        have r1 : IntKind.i64.wrap (D1 + part) = D2 := by rw [s1]; exact IntWalk.i64_in _ (by omega)
                        have r2 : IntKind.i64.wrap (by_ * D2) = by_ * D2 := IntWalk.i64_in _ (by omega)
                        have r3 : IntKind.i64.wrap (by_ * D1) = by_ * D1 := IntWalk.i64_in _ (by omega)
                        have r4 : IntKind.i64.wrap ((by_ * D2).tdiv can) = (by_ * D2).tdiv can := IntWalk.i64_in _ (by omega)
                        have r5 : IntKind.i64.wrap ((by_ * D1).tdiv can) = (by_ * D1).tdiv can := IntWalk.i64_in _ (by omega)
                        have r6 : IntKind.i64.wrap ((by_ * D2).tdiv can - (by_ * D1).tdiv can) = sr := by rw [Hs2.out]; exact IntWalk.i64_in _ (by omega)
                        have r7 : (can == 0) = false := beq_eq_false_iff_ne.2 (by omega)
                        have r8 : can ≠ 0 := by omega
                        clear s1 n1 n2 n3 n4 t1 t2 t3 t4 hgb hsb
                        go_upto_region 33 with fail
                        go_quiet (fail)
                        go_wp2_with fail
                        go_meet
                        exact ⟨rfl, rfl, _, rfl⟩
                    · obtain ⟨z1, z2, z3⟩ := Hdz.out hc0
                      subst z1 z2 z3
                      have d0 : decide (0 < can) = false := decide_eq_false hc0
                      go_wp2_with fail
                      go_meet
                      exact ⟨rfl, rfl, 0, rfl⟩
                  case rest =>
                    obtain ⟨rfl, rfl, m, hwe⟩ := hcut
                    subst hwe
                    have own5 := own_drewN own4 m
                    have hb5 := below_drewN hb4 m
                    have g1 : (wp.drewN m).cell? ⟨X, 1, none⟩ = some (.int .i64 wd) := f1
                    have r1 : IntKind.i64.wrap (sg * sr) = sg * sr := IntWalk.i64_in _ (by omega)
                    have r2 : IntKind.i64.wrap (wd + sg * sr) = wd + sg * sr := IntWalk.i64_in _ (by omega)
                    clear own4 hb4 f0 f1 f2 f3
                    generalize wp.drewN m = wq at *
                    go_wp2_with (at_builtin; refine wpL_append rfl rfl Try.underlying23 fint_info rfl (by decide) rfl rfl (own5.alloc _) (news_at _ _ _ _ (by simp)) rfl (by simp [Value.oneCell']) (by omega) (by omega) (by have := hb5.size; simp; omega) ?_; intro v1 w3 hown3 hgrow3)
                    go_roundw
                    case rel => exact ⟨j + 1, by omega, by go_num, by rw [HD2.out], by rw [Hout.out, List.length_append, List.map_append]; exact hown3, below_app (hb5.alloc hb5.size _) (by have := hb5.size; simp; omega) (own5.alloc _) hgrow3⟩
                    case measure => simp [intOf]; omega
                · have hk1 : (P.kd (x.fr + j) != 1) = true := by simpa using hk
                  have Hd := hide (fDone_other (x := x) Hv.out.1 (show x.fr + j < P.n by omega) hk)
                  have Ho := hide (fOut_not (P := P) (x := x) hk)
                  clear hk
                  go_wp2_with fail
                  go_roundw
                  case rel => exact ⟨j + 1, by omega, by go_num, by rw [Hd.out], by rw [Ho.out]; exact own4, hb4⟩
                  case measure => simp [intOf]; omega
              · obtain rfl : j = x.en - x.fr := by omega
                go_wp2_with fail
                go_ret2
                refine ⟨A7, c7, rfl, ?_, ?_⟩
                · exact ownsRow_less hown (by rw [← Hw.out]; exact Nat.le_trans (Nat.le_of_lt bx2.lt) (Nat.le_refl _))
                · rw [← Hw.out]; exact hbl2.trans (hb3.mono (Nat.le_of_lt bx2.lt))
end Go.Proofs.Ytmjhmcjlbcadaaa.Ln
