/- PROVED HERE: whatever the parts and the shape, chancerykeep3.LinesNeverWorse returns true. No condition beside those of the given statement. -/
import Derived.Test.YtmjhmcjlbcadaaaLnArgs
import Derived.Test.YtmjhmcjlbcadaaaLnBroken
import Derived.Test.YtmjhmcjlbcadaaaLnBreak
import Derived.Test.YtmjhmcjlbcadaaaLnNwPlain
import Derived.BigQuiet
import Derived.Test.YtmjhmcjlbcadaaaChecked
import Derived.Test.YtmjhmcjlbcadaaaRows
namespace Go.Proofs.Ytmjhmcjlbcadaaa.LinesNeverWorseDone
open Go.RowKit Go.Frm Go.ChangeShapes Go.WideShapes Go.ChangeAt Ln Wi

theorem mkP_closed (Q : Pts) (most : Nat) : Closed (mkP Q most) where
  pos := Nat.succ_pos _
  kd := by show (if min Q.n most + 1 - 1 < min Q.n most then _ else (2 : Int)) = 2; rw [if_neg (by omega)]
  co := by show (if min Q.n most + 1 - 1 < min Q.n most then _ else (-10000 : Int)) = -10000; rw [if_neg (by omega)]
def atL (L : List Lin) (i : Nat) : Nat := if i = 0 then 0 else (L.getD (i - 1) ⟨0, 0, 0, 0, 0, 0⟩).en
set_option maxRecDepth 100000 in
set_option maxHeartbeats 4000000 in
theorem walk (A : Option Addr) (Q : Pts) (c : Nat) (Aw : Option Addr) (Z : List Int) (cw : Nat) (D0 : Int) (w : World) (hr : RdF w A Q.n 6 (ptV Q)) (hq : WP Q) (hz : RdI w Aw Z) (hzl : Z.length ≤ 9223372036854775807) (hzw : ∀ i, i < Z.length → (Lit.int .i64 (ix Z i)).wf = true) (hd : (Lit.int .i64 D0).wf = true) :
    Calls Try.prog 3 #[.slice A Q.n c, .agg #[.slice Aw Z.length cw, .int .i64 D0]] w fun e w' => e = .returned (.bool true) ∧ Below w.heap.size w w' := by
  have hbr := hide (fun wx => broken_ok wx)
  have hbl0 := (Below.refl w.heap.size w).alloc (Nat.le_refl _) (.cells #[.slice Aw Z.length cw, .int .i64 D0] 25)
  have bx0 := Blk.new w 25 #[.slice Aw Z.length cw, .int .i64 D0]
  go_enter Try.func3, Try.ntmps3
  go_upto_region 1 with fail
  generalize w.alloc (.cells #[.slice Aw Z.length cw, .int .i64 D0] 25) = w0 at *
  obtain ⟨M, hM⟩ : ∃ M, M = w.heap.size := ⟨_, rfl⟩
  have Hw := hide hM
  rw [← hM] at bx0 hbl0
  simp only [← hM]
  clear hM
  go_upto_region 3 with (go_at_call 6; refine (hbr.out w0).mono ?_; rintro e w1 ⟨rfl, hb1⟩)
  have bx1 := bx0.below hb1 bx0.lt
  have hbl1 : Below M w w1 := hbl0.trans (hb1.mono (by have := bx0.lt; omega))
  have m0 : w1.cell? ⟨M, 0, none⟩ = some (.slice Aw Z.length cw) := bx1.cell 0
  have m1 : w1.cell? ⟨M, 1, none⟩ = some (.int .i64 D0) := bx1.cell 1
  have hM1 := bx1.lt
  have z0 := bx1.frozen 0
  have z1 := bx1.frozen 1
  have hr1 : RdF w1 A Q.n 6 (ptV Q) := hr.below (by rw [← Hw.out]; exact hbl1)
  have hz1 : RdI w1 Aw Z := hz.below (by rw [← Hw.out]; exact hbl1)
  have Hpt := hide (fun wx (hb : Below w1.heap.size w1 wx) => parts_ok A Q c 300 wx (hr1.below hb) hq (by decide))
  have Hsh := hide (fun wx (hb : Below w1.heap.size w1 wx) => lineShape_ok Aw Z cw D0 wx (hz1.below hb) hzw hd hzl)
  clear hr hz hr1 hz1 hq hzl hzw hd hbr bx0 hb1 hbl0
  refine wp_region_sink (S := fun w' : World => w'.cell? ⟨M, 0, none⟩ = some (.slice Aw Z.length cw) ∧ w'.cell? ⟨M, 1, none⟩ = some (.int .i64 D0) ∧ Below w1.heap.size w1 w') 5 (by kernel_rfl) (by kernel_rfl) (by kernel_rfl) (by kernel_rfl) ?hSq (fun hHeld => ?_)
  case hSq => exact ⟨m0, m1, below_drewN (Below.refl _ _) 1⟩
  simp only [List.take_succ_cons, List.take_zero]
  refine wpAnyH_take (i := 0) (v := ?vqn0) rfl (by kernel_rfl) (by kernel_rfl) (by kernel_rfl) (fun _ _ _ h => h) (Or.inl ⟨by rfl, ?hyqn0⟩) (by assumption) ?_
  case hyqn0 => (intro w hSw; (try dsimp only at hSw); go_simp; try with_reducible rfl)
  try simp only [Act.put, List.getElem_toArray, List.getElem_cons_zero, List.getElem_cons_succ, List.setIfInBounds_toArray, List.set_cons_zero, List.set_cons_succ]
  refine wpAnyH_take (i := 2) (v := ?vqn2) rfl (by kernel_rfl) (by kernel_rfl) (by kernel_rfl) (fun _ _ _ h => h) (Or.inl ⟨by rfl, ?hyqn2⟩) (by assumption) ?_
  case hyqn2 => (intro w hSw; (try dsimp only at hSw); go_simp; try with_reducible rfl)
  try simp only [Act.put, List.getElem_toArray, List.getElem_cons_zero, List.getElem_cons_succ, List.setIfInBounds_toArray, List.set_cons_zero, List.set_cons_succ]
  refine wpAnyH_ready (rs := [1]) (by kernel_rfl) (by simp) (AllReadyH.cons rfl (fun K hK => ?_) AllReadyH.nil)
  go_simp
  go_at_call 7
  refine (Hpt.out w1.drew (below_drewN (Below.refl _ _) 1)).mono ?_
  rintro e w2 ⟨A2, c2, rfl, hown2, hb2⟩
  have hbl2 : Below w1.heap.size w1 w2 := Below.trans (b := w1.drew) (below_drewN (Below.refl _ _) 1) hb2
  clear hb2
  go_wp2_with fail
  refine hK.out _ _ ?hkqn1 (fun hHeld => ?_)
  case hkqn1 => exact ⟨(hbl2.cell (World.block_lt_of_cell? _ _ m0)).trans m0, (hbl2.cell (World.block_lt_of_cell? _ _ m1)).trans m1, hbl2⟩
  clear hK K
  try simp only [Act.put, List.getElem_toArray, List.getElem_cons_zero, List.getElem_cons_succ, List.setIfInBounds_toArray, List.set_cons_zero, List.set_cons_succ]
  refine wpAnyH_ready (rs := [3]) (by kernel_rfl) (by simp) (AllReadyH.cons rfl (fun K hK => ?_) AllReadyH.nil)
  go_simp
  go_at_call 8
  refine (Hsh.out w2 hbl2).mono ?_
  rintro e w3 ⟨A3, c3, rfl, hown3, hb3⟩
  have hbl3 : Below w1.heap.size w1 w3 := hbl2.trans (hb3.mono hbl2.size)
  have hown2' := own_below hown2 hb3
  clear hb3 hown2
  have bx3 := bx1.below hbl3 hM1
  have y0 : w3.cell? ⟨M, 0, none⟩ = some (.slice Aw Z.length cw) := bx3.cell 0
  have y1 : w3.cell? ⟨M, 1, none⟩ = some (.int .i64 D0) := bx3.cell 1
  have x0 := bx3.frozen 0
  have x1 := bx3.frozen 1
  go_wp2_with fail
  refine hK.out _ _ ?hkqn3 (fun hHeld => ?_)
  case hkqn3 => exact ⟨(hbl3.cell (World.block_lt_of_cell? _ _ m0)).trans m0, (hbl3.cell (World.block_lt_of_cell? _ _ m1)).trans m1, hbl3⟩
  clear hK K
  try simp only [Act.put, List.getElem_toArray, List.getElem_cons_zero, List.getElem_cons_succ, List.setIfInBounds_toArray, List.set_cons_zero, List.set_cons_succ]
  refine wpAnyH_take (i := 4) (v := ?vqn4) rfl (by kernel_rfl) (by kernel_rfl) (by kernel_rfl) (fun _ _ _ h => h) (Or.inl ⟨by rfl, ?hyqn4⟩) (by assumption) ?_
  case hyqn4 => (intro w hSw; (try dsimp only at hSw); go_simp; try with_reducible rfl)
  try simp only [Act.put, List.getElem_toArray, List.getElem_cons_zero, List.getElem_cons_succ, List.setIfInBounds_toArray, List.set_cons_zero, List.set_cons_succ]
  refine wpAnyH_done (by kernel_rfl) ?_ _
  refine sink_run rfl rfl ?_
  go_simp
  go_upto_region 4 with fail
  have hv := mkP_ok Q (show 300 ≤ 900 by decide)
  have hcl := mkP_closed Q 300
  have hs := mkW_ok Z D0
  have bx4 := (bx3.set_ 0 (.slice A3 (mkW Z).length c3)).set_ 1 (.int .i64 (wi D0 0 5000))
  have hl4 : Below M w ((w3.setCell ⟨M, 0, none⟩ (.slice A3 (mkW Z).length c3)).setCell ⟨M, 1, none⟩ (.int .i64 (wi D0 0 5000))) := ((hbl1.trans (hbl3.mono (by omega))).setCell (p := ⟨M, 0, none⟩) (Nat.le_refl _) _).setCell (p := ⟨M, 1, none⟩) (Nat.le_refl _) _
  have hr4 := RdF.of_own (own_setCell_low (own_setCell_low hown2' (a := ⟨M, 0, none⟩) (show M < _ by simp; omega) (.slice A3 (mkW Z).length c3)) (a := ⟨M, 1, none⟩) (show M < _ by simp; omega) (.int .i64 (wi D0 0 5000)))
  have hz4 := RdI.of_own (own_setCell_low (own_setCell_low hown3 (a := ⟨M, 0, none⟩) (show M < _ by have := hbl2.size; omega) (.slice A3 (mkW Z).length c3)) (a := ⟨M, 1, none⟩) (show M < _ by have := hbl2.size; omega) (.int .i64 (wi D0 0 5000)))
  clear hown2' hown3 bx3 y0 y1 x0 x1 bx1 hbl1 hbl2 hbl3 m0 m1 z0 z1 hM1 Hpt Hsh hHeld
  generalize (w3.setCell ⟨M, 0, none⟩ (.slice A3 (mkW Z).length c3)).setCell ⟨M, 1, none⟩ (.int .i64 (wi D0 0 5000)) = w4 at *
  generalize mkP Q 300 = P at *
  generalize mkW Z = ws at *
  generalize wi D0 0 5000 = D at *
  have y0 : w4.cell? ⟨M, 0, none⟩ = some (.slice A3 ws.length c3) := bx4.cell 0
  have y1 : w4.cell? ⟨M, 1, none⟩ = some (.int .i64 D) := bx4.cell 1
  have Hbk := hide (Break_ok A2 P c2 A3 ws D c3 w4 hr4 hv hz4 hs)
  have Hgr := hide (fun wx (hb : Below w4.heap.size w4 wx) => Greedy_ok A2 P c2 A3 ws D c3 wx (hr4.below hb) hv (hz4.below hb) hs)
  have Hcost := hide (never_worse (P := P) (ws := ws) (D := D) hs.some_ (P.n + 1 - bg P 0) (bg P 0) 0 false (by have := hcl.bg hcl.pos; omega) rfl (P.n + 1) (by omega))
  have Hg1 := hide (And.intro (chain_pos P ws D P.n (bg P 0) 0 false) ((chain_good hcl ws D (P.n + 1) (bg P 0) 0 false (hcl.bg hcl.pos)).less (Nat.zero_le _)))
  have Hg2 := hide (And.intro (greedy_pos P ws P.n (bg P 0) 0) ((greedy_good hcl ws (P.n + 1) (bg P 0) 0 (hcl.bg hcl.pos)).less (Nat.zero_le _)))
  have hn := hv.few
  rw [show min 0 (ws.length - 1) = 0 by omega] at Hcost
  clear hr4 hz4 hv hcl hs
  generalize chain P ws D (P.n + 1) (bg P 0) 0 false = L1 at *
  generalize greedy P ws (P.n + 1) (bg P 0) 0 = L2 at *
  generalize (B P ws D (bg P 0) 0 false).co = C1 at *
  generalize gcost P ws D (P.n + 1) (bg P 0) 0 false = C2 at *
  go_upto_region 5 with (go_at_call 9; refine Hbk.out.mono ?_; rintro e w5 ⟨A5, c5, rfl, hown5, hb5⟩)
  have bx5 := bx4.below hb5 bx4.lt
  have y50 : w5.cell? ⟨M, 0, none⟩ = some (.slice A3 ws.length c3) := bx5.cell 0
  have y51 : w5.cell? ⟨M, 1, none⟩ = some (.int .i64 D) := bx5.cell 1
  clear y0 y1
  go_upto_region 6 with (go_at_call 10; refine (Hgr.out w5 hb5).mono ?_; rintro e w6 ⟨A6, c6, rfl, hown6, hb6⟩)
  have hc : decide (C2 < C1) = false := by have := Hcost.out; simp; omega
  have hl1 : (((L1.length : Nat) : Int) == 0) = false := beq_eq_false_iff_ne.2 (by have := Hg1.out.1; omega)
  have hl2 : (((L2.length : Nat) : Int) == 0) = false := beq_eq_false_iff_ne.2 (by have := Hg2.out.1; omega)
  have lc1 := own_cap hown5
  have lc2 := own_cap hown6
  have hr5 := (RdF.of_own hown5).below hb6
  have hr6 := RdF.of_own hown6
  have hl6 : Below M w w6 := (hl4.trans (hb5.mono (Nat.le_of_lt bx4.lt))).trans (hb6.mono (Nat.le_of_lt bx5.lt))
  clear hown5 hown6 hb5 hb6 bx5 bx4 hl4 y50 y51 Hbk Hgr Hcost
  go_upto_region 8 with fail
  clear hc hl1 hl2
  have hb7 := hl6.alloc (by have := hl6.size; rw [Hw.out]; exact this) (.cells #[.slice A5 L1.length c5, .slice A6 L2.length c6] 29)
  have bg7 := Blk.new w6 29 #[.slice A5 L1.length c5, .slice A6 L2.length c6]
  have hr57 := hr5.alloc (.cells #[.slice A5 L1.length c5, .slice A6 L2.length c6] 29)
  have hr67 := hr6.alloc (.cells #[.slice A5 L1.length c5, .slice A6 L2.length c6] 29)
  clear hr5 hr6 hl6
  obtain ⟨G, hG⟩ : ∃ G, G = w6.heap.size := ⟨_, rfl⟩
  rw [← hG] at bg7
  go_wp2_with fail
  simp only [← hG]
  clear hG
  generalize w6.alloc (.cells #[.slice A5 L1.length c5, .slice A6 L2.length c6] 29) = w7 at *
  have hrows : ∀ k, k < 2 → ∃ (A : Option Addr) (L : List Lin) (c : Nat), L.length ≤ 9223372036854775807 ∧ w7.cell? ⟨G, k, none⟩ = some (.slice A L.length c) ∧ RdF w7 A L.length 6 (fun i => linV (L.getD i ⟨0, 0, 0, 0, 0, 0⟩)) ∧ Ln.Good P.n 0 L := by
    intro k hk
    rcases (show k = 0 ∨ k = 1 by omega) with rfl | rfl
    · exact ⟨A5, L1, c5, by omega, bg7.cell 0, hr57, Hg1.out.2⟩
    · exact ⟨A6, L2, c6, by omega, bg7.cell 1, hr67, Hg2.out.2⟩
  have Hrows := hide hrows
  clear hrows bg7 hr57 hr67 Hg1 Hg2 lc1 lc2
  go_loopw [61] (fun a wr => ∃ k : Nat, k ≤ 2 ∧ a = .int .i64 k ∧ Below M w wr ∧ Below w7.heap.size w7 wr) (fun a _ => 2 - (intOf a).toNat)
  case atStart => exact ⟨0, by omega, rfl, hb7, Below.refl _ _⟩
  case round =>
    obtain ⟨k, hk, rfl, hbw, hb8⟩ := hrel
    clear hb7
    by_cases hlt : k < 2
    · obtain ⟨A8, L, c8, hlen, hcell, hrow, hgood⟩ := Hrows.out k hlt
      have kc : wr.cell? ⟨G, k, none⟩ = some (.slice A8 L.length c8) := (hb8.cell (p := ⟨G, k, none⟩) (World.block_lt_of_cell? _ _ hcell)).trans hcell
      have hrow8 := hrow.below hb8
      have Hgood := hide hgood
      have i1 : (k : Int) < 2 := by omega
      clear hcell hrow hgood
      go_wp2_with fail
      obtain ⟨wo, rfl⟩ : ∃ wo : World, wo = wr := ⟨_, rfl⟩
      go_loopw [13, 67] (fun a b wr => ∃ i : Nat, i ≤ L.length ∧ b = .int .i64 i ∧ a = .int .i64 (atL L i) ∧ Below M w wr ∧ Below w7.heap.size w7 wr ∧ Below wo.heap.size wo wr) (fun _ b _ => L.length - (intOf b).toNat)
      case atStart => exact ⟨0, by omega, rfl, rfl, hbw, hb8, Below.refl _ _⟩
      case round =>
        obtain ⟨i, hi, rfl, rfl, hbw2, hb82, hbo2⟩ := hrel
        by_cases hil : i < L.length
        · have hg := Hgood.out.at_ hil ⟨0, 0, 0, 0, 0, 0⟩
          obtain ⟨b, off, rfl, hc⟩ := (hrow8.below hbo2).at_ hil
          have e0 : wr.cell? ⟨b, off + i * 6, none⟩ = some (.int .i64 (L.getD i ⟨0, 0, 0, 0, 0, 0⟩).fr) := hc 0 (by omega)
          have e1 : wr.cell? ⟨b, off + i * 6 + 1, none⟩ = some (.int .i64 (L.getD i ⟨0, 0, 0, 0, 0, 0⟩).en) := hc 1 (by omega)
          have e2 : wr.cell? ⟨b, off + i * 6 + 2, none⟩ = some (.int .i64 (L.getD i ⟨0, 0, 0, 0, 0, 0⟩).nat) := hc 2 (by omega)
          have e3 : wr.cell? ⟨b, off + i * 6 + 3, none⟩ = some (.int .i64 (L.getD i ⟨0, 0, 0, 0, 0, 0⟩).str) := hc 3 (by omega)
          have e4 : wr.cell? ⟨b, off + i * 6 + 4, none⟩ = some (.int .i64 (L.getD i ⟨0, 0, 0, 0, 0, 0⟩).shr) := hc 4 (by omega)
          have e5 : wr.cell? ⟨b, off + i * 6 + 5, none⟩ = some (.int .i64 (L.getD i ⟨0, 0, 0, 0, 0, 0⟩).wid) := hc 5 (by omega)
          have hprev : 0 < i → wr.cell? ⟨b, off + (i - 1) * 6 + 1, none⟩ = some (.int .i64 (L.getD (i - 1) ⟨0, 0, 0, 0, 0, 0⟩).en) := by
            intro h0
            obtain ⟨b', off', hA, hc'⟩ := (hrow8.below hbo2).at_ (show i - 1 < L.length by omega)
            injection hA with hA
            injection hA with hA hA'
            subst hA hA'
            exact hc' 1 (by omega)
          have hat : ((atL L i : Nat) : Int) ≤ ((L.getD i ⟨0, 0, 0, 0, 0, 0⟩).fr : Int) := by
            unfold atL
            split
            · omega
            · have := hg.2.2.2 (by omega); omega
          have hnx : atL L (i + 1) = (L.getD i ⟨0, 0, 0, 0, 0, 0⟩).en := rfl
          have Hnx := hide hnx
          have Hpr := hide hprev
          have Hgi := hide hg
          have Hat := hide hat
          clear hc hprev hg hat hnx
          generalize atL L i = at0 at *
          generalize L.getD i ⟨0, 0, 0, 0, 0, 0⟩ = x at *
          go_upto_region 15 with fail
          have hbx := hbw2.alloc (by have := hbw2.size; rw [Hw.out]; exact this) (.cells #[.int .i64 x.fr, .int .i64 x.en, .int .i64 x.nat, .int .i64 x.str, .int .i64 x.shr, .int .i64 x.wid] 35)
          have hbx8 := hb82.alloc hb82.size (.cells #[.int .i64 x.fr, .int .i64 x.en, .int .i64 x.nat, .int .i64 x.str, .int .i64 x.shr, .int .i64 x.wid] 35)
          have hbxo := hbo2.alloc hbo2.size (.cells #[.int .i64 x.fr, .int .i64 x.en, .int .i64 x.nat, .int .i64 x.str, .int .i64 x.shr, .int .i64 x.wid] 35)
          have bxx := Blk.new wr 35 #[.int .i64 x.fr, .int .i64 x.en, .int .i64 x.nat, .int .i64 x.str, .int .i64 x.shr, .int .i64 x.wid]
          have Hpx : Hid (0 < i → (wr.alloc (.cells #[.int .i64 x.fr, .int .i64 x.en, .int .i64 x.nat, .int .i64 x.str, .int .i64 x.shr, .int .i64 x.wid] 35)).cell? ⟨b, off + (i - 1) * 6 + 1, none⟩ = some (.int .i64 (L.getD (i - 1) ⟨0, 0, 0, 0, 0, 0⟩).en)) := hide (fun h0 => (World.cell?_alloc_lt _ _ _ (World.block_lt_of_cell? _ _ (Hpr.out h0))).trans (Hpr.out h0))
          clear hbw2 hb82 hbo2 e0 e1 e2 e3 e4 e5 Hpr
          generalize wr.alloc (.cells #[.int .i64 x.fr, .int .i64 x.en, .int .i64 x.nat, .int .i64 x.str, .int .i64 x.shr, .int .i64 x.wid] 35) = wx at *
          generalize wr.heap.size = X at *
          have f0 : wx.cell? ⟨X, 0, none⟩ = some (.int .i64 x.fr) := bxx.cell 0
          have f1 : wx.cell? ⟨X, 1, none⟩ = some (.int .i64 x.en) := bxx.cell 1
          have hbn : ∀ m, Below M w (wx.drewN m) ∧ Below w7.heap.size w7 (wx.drewN m) ∧ Below wo.heap.size wo (wx.drewN m) := fun m => ⟨below_drewN hbx m, below_drewN hbx8 m, below_drewN hbxo m⟩
          have Hbn := hide hbn
          clear hbn hbx hbx8 hbxo bxx
          by_cases h0 : i = 0
          · subst h0
            have d1 : decide (x.fr < at0) = false := by exact decide_eq_false (by have := Hat.out; omega)
            have d2 : decide (x.en < x.fr) = false := by exact decide_eq_false (by have := Hgi.out.1; omega)
            have d3 : decide (P.n ≤ x.en) = false := by exact decide_eq_false (by have := Hgi.out.2.1; omega)
            clear Hpx Hat Hgi
            go_quiet (fail)
            go_wp2_with fail
            go_roundw
            case rel => exact ⟨1, by omega, by go_num, by rw [Hnx.out], (Hbn.out _).1, (Hbn.out _).2.1, (Hbn.out _).2.2⟩
            case measure => simp [intOf]; omega
          · have h1 : 0 < i := by omega
            have d1 : decide (x.fr < at0) = false := by exact decide_eq_false (by have := Hat.out; omega)
            have d2 : decide (x.en < x.fr) = false := by exact decide_eq_false (by have := Hgi.out.1; omega)
            have d3 : decide (P.n ≤ x.en) = false := by exact decide_eq_false (by have := Hgi.out.2.1; omega)
            have p1 := Hpx.out h1
            have d4 : decide (0 < i) = true := decide_eq_true h1
            have d5 : decide (x.fr ≤ (L.getD (i - 1) ⟨0, 0, 0, 0, 0, 0⟩).en) = false := by exact decide_eq_false (by have := Hgi.out.2.2.2 h1; omega)
            have j2 : i - 1 < L.length := by omega
            generalize L.getD (i - 1) ⟨0, 0, 0, 0, 0, 0⟩ = y at *
            have q1 : IntKind.i64.wrap ((i : Int) - 1) = ((i - 1 : Nat) : Int) := by rw [IntWalk.i64_in _ (by omega)]; omega
            have j1 : ((i - 1 : Nat) : Int) < (L.length : Int) := by omega
            clear Hpx Hat Hgi
            go_quiet (fail)
            go_wp2_with fail
            go_roundw
            case rel => exact ⟨i + 1, by omega, by go_num, by rw [Hnx.out], (Hbn.out _).1, (Hbn.out _).2.1, (Hbn.out _).2.2⟩
            case measure => simp [intOf]; omega
        · obtain rfl : i = L.length := by omega
          go_wp2_with fail
          go_roundw
          case rel => exact ⟨k + 1, by omega, by go_num, hbw2, hb82⟩
          case measure => simp [intOf]; omega
    · obtain rfl : k = 2 := by omega
      go_wp2_with fail
      go_ret
      exact ⟨rfl, by rw [← Hw.out]; exact hbw⟩

theorem walked : Walked Try.checked.prog 3 Try.f3 := by
  intro H enc W args ds ps hval hA
  rw [Try.params3] at hA hval
  obtain ⟨v0, v1, d0, d1, p0, p1, rfl, _, _, h0, h1⟩ := trodAll_two hA
  obtain ⟨a0, l0, k0, rfl⟩ := okWide_slice Try.underlying22 (hval 0 _ _ rfl rfl)
  obtain ⟨fuel, h0⟩ := h0
  obtain ⟨A, Q, c, hs, hr, hq⟩ := parts_trod (v := .slice a0 l0 k0) h0
  obtain ⟨Aw, Z, cw, D, rfl, hz, hzl, hzw, hd⟩ := lshape_trod (hval 1 _ _ rfl rfl) h1
  rw [hs]
  exact walk A Q c Aw Z cw D W hr hq hz hzl hzw hd

theorem lifted (os : Os) (started : os.Started) (H : Type) (enc : TypeId × Value → H) :
    ReturnsInHanded {} Try.checked os 3 .any (Rows.linesNeverWorseSpec.pre6 enc Try.prog Try.f3 Rows.linesNeverWorseRow.domain false) (Rows.linesNeverWorseSpec.post enc Try.prog Try.f3 false true false false) :=
  law_lift (C := Try.checked) (tb := 4) (by kernel_rfl) started (by kernel_rfl) Try.func3 rfl
    (fun ds h => match ds, h with | [_, _], _ => rfl) rfl Try.underlying4 (by kernel_rfl) (by kernel_rfl)
    (ChangeSpec.witness6 (enc := enc) (C := Try.checked) false ⟨#[], #[.slice none 0 0, .agg #[.slice none 0 0, .int .i64 0]], []⟩ 8 (by kernel_rfl) (by kernel_rfl) (by kernel_rfl) (by kernel_rfl))
    walked

/-- THE STATEMENT -/
theorem proved : Rows.LinesNeverWorseSaid :=
  OpenClaim.holds_of_wide 3 Try.f3 rfl rfl rfl rfl rfl rfl rfl ⟨rfl, rfl, rfl, rfl, rfl⟩ rfl rfl rfl rfl rfl (by kernel_rfl) Try.func3 (by kernel_rfl)
    (of_decide_eq_true (by kernel_rfl)) (by unfold Func.isWrapper; first | (rw [if_pos (by decide +kernel)]; kernel_rfl) | (rw [if_neg (by decide +kernel)]; exact ⟨rfl, rfl⟩))
    (fun os started H enc _ => lifted os started H enc)
#print axioms proved
end Go.Proofs.Ytmjhmcjlbcadaaa.LinesNeverWorseDone
