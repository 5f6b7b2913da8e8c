/- PROVED HERE: whatever the parts, the shape and the number, chancerykeep3.LinesFilled returns true. No condition beside those of the given statement. -/
import Derived.Test.YtmjhmcjlbcadaaaLnArgs
import Derived.Test.YtmjhmcjlbcadaaaLnBreak
import Derived.Test.YtmjhmcjlbcadaaaLnFill
import Derived.Test.YtmjhmcjlbcadaaaEqual
import Derived.Test.YtmjhmcjlbcadaaaChecked
import Derived.Test.YtmjhmcjlbcadaaaRows
namespace Go.Proofs.Ytmjhmcjlbcadaaa.LinesFilledDone
open Go.RowKit Go.Frm Go.ChangeShapes Go.WideShapes Go.ChangeAt Ln Wi

theorem mkP_closed (Q : Pts) (most : Nat) : Closed (mkP Q most) where
  pos := Nat.succ_pos _
  kd := by show (if min Q.n most + 1 - 1 < min Q.n most then _ else (2 : Int)) = 2; rw [if_neg (by omega)]
  co := by show (if min Q.n most + 1 - 1 < min Q.n most then _ else (-10000 : Int)) = -10000; rw [if_neg (by omega)]
theorem wAt_bd {ws : List Int} {D : Int} (h : VS ws D) (k : Nat) : 1 ≤ wAt ws k ∧ wAt ws k ≤ 100000 := by
  have h0 := h.some_
  have hk : min k (ws.length - 1) < ws.length := by omega
  unfold wAt
  rw [List.getD_eq_getElem?_getD, List.getElem?_eq_getElem hk]
  exact h.wide _ (List.getElem_mem hk)
theorem chain_lines {P : Pts} (hc : Closed P) {ws : List Int} {D : Int} (h : VS ws D) : ∀ (f fr k : Nat) (fl : Bool), fr < P.n → ∀ x ∈ chain P ws D f fr k fl, IsLine P x ∧ x.en < P.n
  | 0, _, _, _, _, x, hx => by simp [chain] at hx
  | f + 1, fr, k, fl, hf, x, hx => by
    have hb := B_end hc ws D (k := min k (ws.length - 1)) fl hf
    unfold chain at hx
    dsimp only at hx
    generalize (B P ws D fr (min k (ws.length - 1)) fl).en.toNat = q at *
    rcases List.mem_cons.1 hx with rfl | hx
    · exact ⟨line_is hb.1 (by omega) (wAt_bd h k), hb.2⟩
    · cases hl : last P q with
      | true => rw [hl] at hx; simp at hx
      | false =>
        rw [hl] at hx
        simp only [Bool.false_eq_true, if_false] at hx
        exact chain_lines hc h f _ (k + 1) _ (after_lt (by omega) hl).2.2 x hx
theorem chain_le (P : Pts) (ws : List Int) (D : Int) : ∀ (f fr k : Nat) (fl : Bool), (chain P ws D f fr k fl).length ≤ f
  | 0, _, _, _ => Nat.le_refl _
  | f + 1, fr, k, fl => by
    unfold chain
    dsimp only
    rw [List.length_cons]
    split
    · simp
    · have := chain_le P ws D f (after P (B P ws D fr (min k (ws.length - 1)) fl).en.toNat) (k + 1) (flag P (B P ws D fr (min k (ws.length - 1)) fl).en.toNat)
      omega
theorem fSum_bd {P : Pts} {x : Lin} (h : IsLine P x) (hv : VP P) {j : Nat} (hj : x.fr + j ≤ x.en) : -1000000 ≤ fSum P x j ∧ fSum P x j ≤ 1000000 := by
  have hen := h.en
  have few := hv.few
  have w1 := sW_mono hv (show x.fr ≤ x.fr + j by omega) (by omega)
  have w2 := sW_bd hv (x.fr + j) (by omega)
  have w3 := sW_bd hv x.fr (by omega)
  have hb := fBy_bd h hv
  have hd := fDone_bd h hv hj
  have ht : 0 ≤ (if 0 < fCan x then (fBy x * fDone P x j).tdiv (fCan x) else 0) ∧ (if 0 < fCan x then (fBy x * fDone P x j).tdiv (fCan x) else 0) ≤ 400000 := by
    split
    · rename_i h0
      have n1 : 0 ≤ fBy x * fDone P x j := Int.mul_nonneg hb.1 hd.1
      have m2 : fBy x * fDone P x j ≤ fBy x * fCan x := Int.mul_le_mul_of_nonneg_left hd.2 hb.1
      have q2 := Int.ediv_le_ediv h0 m2
      rw [Int.mul_ediv_cancel _ (by omega)] at q2
      rw [Int.tdiv_eq_ediv_of_nonneg n1]
      exact ⟨Int.ediv_nonneg n1 (by omega), by omega⟩
    · omega
  unfold fSum fSg
  split <;> omega
/-- the parts that LinesFilled begins with -/
def P1 : Pts where
  n := 3
  kd i := if i = 1 then 1 else 0
  wd i := if i = 1 then 4 else 10
  st i := if i = 1 then 1 else 0
  sh _ := 0
  co _ := 0
  fl _ := false
theorem P1_ok : VP P1 where
  few := by decide
  kind i hi := by
    have : i < 3 := hi
    rcases (show i = 0 ∨ i = 1 ∨ i = 2 by omega) with rfl | rfl | rfl <;> decide
  wide i hi := by
    have : i < 3 := hi
    rcases (show i = 0 ∨ i = 1 ∨ i = 2 by omega) with rfl | rfl | rfl <;> decide
  str i hi := by
    have : i < 3 := hi
    rcases (show i = 0 ∨ i = 1 ∨ i = 2 by omega) with rfl | rfl | rfl <;> decide
  shr i hi := by
    have : i < 3 := hi
    rcases (show i = 0 ∨ i = 1 ∨ i = 2 by omega) with rfl | rfl | rfl <;> decide
  cost i hi := by
    have : i < 3 := hi
    rcases (show i = 0 ∨ i = 1 ∨ i = 2 by omega) with rfl | rfl | rfl <;> decide
  glue i hi := by
    have : i < 3 := hi
    rcases (show i = 0 ∨ i = 1 ∨ i = 2 by omega) with rfl | rfl | rfl <;> decide
  pen i hi := by
    have : i < 3 := hi
    rcases (show i = 0 ∨ i = 1 ∨ i = 2 by omega) with rfl | rfl | rfl <;> decide
def x1 : Lin := ⟨0, 3, 24, 1, 0, 30⟩
theorem x1_line : IsLine P1 x1 := ⟨by decide, by decide, by kernel_rfl, by kernel_rfl, by kernel_rfl, by decide⟩
theorem out1 : fOut P1 x1 3 = [10] := by kernel_rfl
theorem row1 (w : World) : RdF (w.alloc (.cells #[.int .i64 0, .int .i64 10, .int .i64 0, .int .i64 0, .int .i64 0, .bool false, .int .i64 1, .int .i64 4, .int .i64 1, .int .i64 0, .int .i64 0, .bool false, .int .i64 0, .int .i64 10, .int .i64 0, .int .i64 0, .int .i64 0, .bool false] 39)) (some ⟨w.heap.size, 0, none⟩) 3 6 (ptV P1) := by
  have h := World.ownsRow_lit (base := w.heap.size) (e := 39) (size := 6) w #[.int .i64 0, .int .i64 10, .int .i64 0, .int .i64 0, .int .i64 0, .bool false, .int .i64 1, .int .i64 4, .int .i64 1, .int .i64 0, .int .i64 0, .bool false, .int .i64 0, .int .i64 10, .int .i64 0, .int .i64 0, .int .i64 0, .bool false] 3 (Nat.le_refl _) (by decide) rfl
  exact RdF.of_own h
theorem fill1_ok (g : Nat) (w : World) (hr : RdF w (some ⟨g, 0, none⟩) 3 6 (ptV P1)) :
    Calls Try.prog 13 #[.slice (some ⟨g, 0, none⟩) 3 3, .agg #[.int .i64 0, .int .i64 3, .int .i64 0, .int .i64 0, .int .i64 0, .int .i64 30], .bool true] w fun e w' => ∃ A c, e = .returned (.tuple #[.slice A 1 c, .int .i64 0]) ∧ RdI w' A [10] ∧ Below w.heap.size w w' := by
  have h := Fill_ok g 0 P1 3 x1 0 0 0 w hr ⟨by decide, by decide⟩ P1_ok x1_line (by decide)
  rw [show x1.en - x1.fr = 3 from rfl, out1] at h
  refine h.mono ?_
  rintro e w' ⟨A, c, rfl, hown, hb⟩
  exact ⟨A, c, rfl, RdI.of_own hown, hb⟩
set_option maxRecDepth 100000 in
set_option maxHeartbeats 8000000 in
theorem walk (A : Option Addr) (Q : Pts) (c : Nat) (Aw : Option Addr) (Z : List Int) (cw : Nat) (D0 : Int) (which : Int) (w : World) (hr : RdF w A Q.n 6 (ptV Q)) (hq : WP Q) (hz : RdI w Aw Z) (hzl : Z.length ≤ 9223372036854775807) (hzw : ∀ i, i < Z.length → (Lit.int .i64 (ix Z i)).wf = true) (hd : (Lit.int .i64 D0).wf = true) (hwh : (Lit.int .i64 which).wf = true) :
    Calls Try.prog 5 #[.slice A Q.n c, .agg #[.slice Aw Z.length cw, .int .i64 D0], .int .i64 which] w fun e w' => e = .returned (.bool true) ∧ Below w.heap.size w w' := by
  have hbl0 := (Below.refl w.heap.size w).alloc (Nat.le_refl _) (.cells #[.slice Aw Z.length cw, .int .i64 D0] 25)
  have bx0 := Blk.new w 25 #[.slice Aw Z.length cw, .int .i64 D0]
  go_enter Try.func5, Try.ntmps5
  go_upto_region 1 with fail
  generalize w.alloc (.cells #[.slice Aw Z.length cw, .int .i64 D0] 25) = w0 at *
  obtain ⟨M, hM⟩ : ∃ M, M = w.heap.size := ⟨_, rfl⟩
  have Hw := hide hM
  rw [← hM] at bx0 hbl0
  simp only [← hM]
  clear hM
  have hb01 := (Below.refl w0.heap.size w0).alloc (Nat.le_refl _) (.cells #[.int .i64 0, .int .i64 10, .int .i64 0, .int .i64 0, .int .i64 0, .bool false, .int .i64 1, .int .i64 4, .int .i64 1, .int .i64 0, .int .i64 0, .bool false, .int .i64 0, .int .i64 10, .int .i64 0, .int .i64 0, .int .i64 0, .bool false] 39)
  have Hf1 := hide (fill1_ok w0.heap.size _ (row1 w0))
  go_upto_region 2 with (go_at_call 13; refine Hf1.out.mono ?_; rintro e w00 ⟨A0, c0, rfl, hr00, hb00⟩)
  have hb02 := hb01.trans (hb00.mono hb01.size)
  have hb03 := hb02.alloc hb02.size (.cells #[.int .i64 10] 3)
  have heq := hide (Scl.equal_any A0 (some ⟨w00.heap.size, 0, none⟩) c0 1 [10] [10] (w00.alloc (.cells #[.int .i64 10] 3)) (hr00.alloc _) (rdI_lit w00 3 w00.heap.size [10] rfl (by decide)) (by decide) (by decide))
  clear Hf1 hb00 hb01 hb02 hr00
  go_upto_region 4 with (go_at_call 14; refine heq.out.mono ?_; rintro e w01 ⟨rfl, dn, rfl⟩)
  have hb04 := below_drewN hb03 dn
  clear hb03 heq
  generalize (w00.alloc (.cells #[.int .i64 10] 3)).drewN dn = w1 at *
  have bx1 := bx0.below hb04 bx0.lt
  have hbl1 : Below M w w1 := hbl0.trans (hb04.mono (by have := bx0.lt; omega))
  have m0 : w1.cell? ⟨M, 0, none⟩ = some (.slice Aw Z.length cw) := bx1.cell 0
  have m1 : w1.cell? ⟨M, 1, none⟩ = some (.int .i64 D0) := bx1.cell 1
  have hM1 := bx1.lt
  have z0 := bx1.frozen 0
  have z1 := bx1.frozen 1
  have hr1 : RdF w1 A Q.n 6 (ptV Q) := hr.below (by rw [← Hw.out]; exact hbl1)
  have hz1 : RdI w1 Aw Z := hz.below (by rw [← Hw.out]; exact hbl1)
  have Hpt := hide (fun wx (hb : Below w1.heap.size w1 wx) => parts_ok A Q c 80 wx (hr1.below hb) hq (by decide))
  have Hsh := hide (fun wx (hb : Below w1.heap.size w1 wx) => lineShape_ok Aw Z cw D0 wx (hz1.below hb) hzw hd hzl)
  clear hr hz hr1 hz1 hq hzl hzw hd bx0 hb04 hbl0
  refine wp_region_sink (S := fun w' : World => w'.cell? ⟨M, 0, none⟩ = some (.slice Aw Z.length cw) ∧ w'.cell? ⟨M, 1, none⟩ = some (.int .i64 D0) ∧ Below w1.heap.size w1 w') 5 (by kernel_rfl) (by kernel_rfl) (by kernel_rfl) (by kernel_rfl) ?hSq (fun hHeld => ?_)
  case hSq => exact ⟨m0, m1, below_drewN (Below.refl _ _) 1⟩
  simp only [List.take_succ_cons, List.take_zero]
  refine wpAnyH_take (i := 0) (v := ?vqn0) rfl (by kernel_rfl) (by kernel_rfl) (by kernel_rfl) (fun _ _ _ h => h) (Or.inl ⟨by rfl, ?hyqn0⟩) (by assumption) ?_
  case hyqn0 => (intro w hSw; (try dsimp only at hSw); go_simp; try with_reducible rfl)
  try simp only [Act.put, List.getElem_toArray, List.getElem_cons_zero, List.setIfInBounds_toArray, List.set_cons_zero, List.set_cons_succ]
  refine wpAnyH_take (i := 2) (v := ?vqn2) rfl (by kernel_rfl) (by kernel_rfl) (by kernel_rfl) (fun _ _ _ h => h) (Or.inl ⟨by rfl, ?hyqn2⟩) (by assumption) ?_
  case hyqn2 => (intro w hSw; (try dsimp only at hSw); go_simp; try with_reducible rfl)
  try simp only [Act.put, List.getElem_toArray, List.getElem_cons_zero, List.getElem_cons_succ, List.setIfInBounds_toArray, List.set_cons_zero, List.set_cons_succ]
  refine wpAnyH_ready (rs := [1]) (by kernel_rfl) (by simp) (AllReadyH.cons rfl (fun K hK => ?_) AllReadyH.nil)
  go_simp
  go_at_call 7
  refine (Hpt.out w1.drew (below_drewN (Below.refl _ _) 1)).mono ?_
  rintro e w2 ⟨A2, c2, rfl, hown2, hb2⟩
  have hbl2 : Below w1.heap.size w1 w2 := Below.trans (b := w1.drew) (below_drewN (Below.refl _ _) 1) hb2
  clear hb2
  go_wp2_with fail
  refine hK.out _ _ ?hkqn1 (fun hHeld => ?_)
  case hkqn1 => exact ⟨(hbl2.cell (World.block_lt_of_cell? _ _ m0)).trans m0, (hbl2.cell (World.block_lt_of_cell? _ _ m1)).trans m1, hbl2⟩
  clear hK K
  try simp only [Act.put, List.getElem_toArray, List.getElem_cons_zero, List.getElem_cons_succ, List.setIfInBounds_toArray, List.set_cons_zero, List.set_cons_succ]
  refine wpAnyH_ready (rs := [3]) (by kernel_rfl) (by simp) (AllReadyH.cons rfl (fun K hK => ?_) AllReadyH.nil)
  go_simp
  go_at_call 8
  refine (Hsh.out w2 hbl2).mono ?_
  rintro e w3 ⟨A3, c3, rfl, hown3, hb3⟩
  have hbl3 : Below w1.heap.size w1 w3 := hbl2.trans (hb3.mono hbl2.size)
  have hown2' := own_below hown2 hb3
  clear hb3 hown2
  have bx3 := bx1.below hbl3 hM1
  have y0 : w3.cell? ⟨M, 0, none⟩ = some (.slice Aw Z.length cw) := bx3.cell 0
  have y1 : w3.cell? ⟨M, 1, none⟩ = some (.int .i64 D0) := bx3.cell 1
  have x0 := bx3.frozen 0
  have x1 := bx3.frozen 1
  go_wp2_with fail
  refine hK.out _ _ ?hkqn3 (fun hHeld => ?_)
  case hkqn3 => exact ⟨(hbl3.cell (World.block_lt_of_cell? _ _ m0)).trans m0, (hbl3.cell (World.block_lt_of_cell? _ _ m1)).trans m1, hbl3⟩
  clear hK K
  try simp only [Act.put, List.getElem_toArray, List.getElem_cons_zero, List.getElem_cons_succ, List.setIfInBounds_toArray, List.set_cons_zero, List.set_cons_succ]
  refine wpAnyH_take (i := 4) (v := ?vqn4) rfl (by kernel_rfl) (by kernel_rfl) (by kernel_rfl) (fun _ _ _ h => h) (Or.inl ⟨by rfl, ?hyqn4⟩) (by assumption) ?_
  case hyqn4 => (intro w hSw; (try dsimp only at hSw); go_simp; try with_reducible rfl)
  try simp only [Act.put, List.getElem_toArray, List.getElem_cons_zero, List.getElem_cons_succ, List.setIfInBounds_toArray, List.set_cons_zero, List.set_cons_succ]
  refine wpAnyH_done (by kernel_rfl) ?_ _
  refine sink_run rfl rfl ?_
  go_simp
  go_upto_region 5 with fail
  have hv := mkP_ok Q (show 80 ≤ 900 by decide)
  have hcl := mkP_closed Q 80
  have hs := mkW_ok Z D0
  have bx4 := (bx3.set_ 0 (.slice A3 (mkW Z).length c3)).set_ 1 (.int .i64 (wi D0 0 5000))
  have hl4 : Below M w ((w3.setCell ⟨M, 0, none⟩ (.slice A3 (mkW Z).length c3)).setCell ⟨M, 1, none⟩ (.int .i64 (wi D0 0 5000))) := ((hbl1.trans (hbl3.mono (by omega))).setCell (p := ⟨M, 0, none⟩) (Nat.le_refl _) _).setCell (p := ⟨M, 1, none⟩) (Nat.le_refl _) _
  have hr4 := RdF.of_own (own_setCell_low (own_setCell_low hown2' (a := ⟨M, 0, none⟩) (show M < _ by simp; omega) (.slice A3 (mkW Z).length c3)) (a := ⟨M, 1, none⟩) (show M < _ by simp; omega) (.int .i64 (wi D0 0 5000)))
  have hz4 := RdI.of_own (own_setCell_low (own_setCell_low hown3 (a := ⟨M, 0, none⟩) (show M < _ by have := hbl2.size; omega) (.slice A3 (mkW Z).length c3)) (a := ⟨M, 1, none⟩) (show M < _ by have := hbl2.size; omega) (.int .i64 (wi D0 0 5000)))
  have hcap := own_cap hown2'
  obtain ⟨g2, rfl, _⟩ := own_at hown2' hcl.pos
  clear hown2' hown3 bx3 y0 y1 x0 x1 bx1 hbl1 hbl2 hbl3 m0 m1 z0 z1 hM1 Hpt Hsh hHeld
  generalize (w3.setCell ⟨M, 0, none⟩ (.slice A3 (mkW Z).length c3)).setCell ⟨M, 1, none⟩ (.int .i64 (wi D0 0 5000)) = w4 at *
  generalize mkP Q 80 = P at *
  generalize mkW Z = ws at *
  generalize wi D0 0 5000 = D at *
  have y0 : w4.cell? ⟨M, 0, none⟩ = some (.slice A3 ws.length c3) := bx4.cell 0
  have y1 : w4.cell? ⟨M, 1, none⟩ = some (.int .i64 D) := bx4.cell 1
  have Hbk := hide (Break_ok (some ⟨g2, 0, none⟩) P c2 A3 ws D c3 w4 hr4 hv hz4 hs)
  have Hg1 := hide (And.intro (chain_pos P ws D P.n (bg P 0) 0 false) (chain_lines hcl hs (P.n + 1) (bg P 0) 0 false (hcl.bg hcl.pos)))
  have hn := hv.few
  have hL := chain_le P ws D (P.n + 1) (bg P 0) 0 false
  have Hv := hide hv
  clear hz4 hv hcl hs
  generalize chain P ws D (P.n + 1) (bg P 0) 0 false = L1 at *
  generalize (B P ws D (bg P 0) 0 false).co = C1 at *
  go_upto_region 6 with (go_at_call 9; refine Hbk.out.mono ?_; rintro e w5 ⟨A5, c5, rfl, hown5, hb5⟩)
  have hl5 : Below M w w5 := hl4.trans (hb5.mono (Nat.le_of_lt bx4.lt))
  have hr5 := hr4.below hb5
  have hp1 := Hg1.out.1
  have hlc := own_cap hown5
  have hl1 : (((L1.length : Nat) : Int) == 0) = false := beq_eq_false_iff_ne.2 (by omega)
  clear y0 y1 Hbk hr4 hl4 bx4 hb5
  go_upto_region 8 with fail
  have hwb := wi_bd which (show (0 : Int) ≤ (L1.length : Int) - 1 by omega)
  have hwi := hide (fun wx => within_any which 0 ((L1.length : Int) - 1) wx hwh (by omega) (by omega) (by omega))
  obtain ⟨k, hk⟩ : ∃ k : Nat, wi which 0 ((L1.length : Int) - 1) = (k : Int) := ⟨(wi which 0 ((L1.length : Int) - 1)).toNat, by omega⟩
  rw [hk] at hwi hwb
  have hkl : k < L1.length := by omega
  obtain ⟨g5, rfl, _⟩ := own_at hown5 hp1
  have hxm : L1.getD k ⟨0, 0, 0, 0, 0, 0⟩ ∈ L1 := by rw [List.getD_eq_getElem?_getD, List.getElem?_eq_getElem hkl]; exact List.getElem_mem hkl
  obtain ⟨hxl, hxe⟩ := Hg1.out.2 _ hxm
  obtain ⟨e0, e1, e2, e3, e4, e5⟩ := row_get hown5 hkl rfl
  generalize L1.getD k ⟨0, 0, 0, 0, 0, 0⟩ = x at *
  have qs : IntKind.i64.wrap ((L1.length : Int) - 1) = (L1.length : Int) - 1 := IntWalk.i64_in _ (by omega)
  have hl5s : w.heap.size ≤ w5.heap.size := by have := hl5.size; exact this
  have Hx := hide hxl
  have Hhz := hide (show M ≤ w5.heap.size by rw [Hw.out]; exact hl5s)
  clear hwh hxm Hg1 hown5 hk hl5s hxl
  go_upto_region 9 with (go_at_call 11; refine (hwi.out _).mono ?_; rintro e w6 ⟨rfl, rfl⟩)
  have hl6 := hl5.alloc Hhz.out (.cells #[.int .i64 x.fr, .int .i64 x.en, .int .i64 x.nat, .int .i64 x.str, .int .i64 x.shr, .int .i64 x.wid] 35)
  have bx6 := Blk.new w5 35 #[.int .i64 x.fr, .int .i64 x.en, .int .i64 x.nat, .int .i64 x.str, .int .i64 x.shr, .int .i64 x.wid]
  have hr6 := hr5.alloc (.cells #[.int .i64 x.fr, .int .i64 x.en, .int .i64 x.nat, .int .i64 x.str, .int .i64 x.shr, .int .i64 x.wid] 35)
  clear e0 e1 e2 e3 e4 e5 hwi hl5 hr5 hl1 hwb
  have hX := Hhz.out
  generalize w5.alloc (.cells #[.int .i64 x.fr, .int .i64 x.en, .int .i64 x.nat, .int .i64 x.str, .int .i64 x.shr, .int .i64 x.wid] 35) = w6 at *
  generalize w5.heap.size = X at *
  have f0 : w6.cell? ⟨X, 0, none⟩ = some (.int .i64 x.fr) := bx6.cell 0
  have f1 : w6.cell? ⟨X, 1, none⟩ = some (.int .i64 x.en) := bx6.cell 1
  have f2 : w6.cell? ⟨X, 2, none⟩ = some (.int .i64 x.nat) := bx6.cell 2
  have f3 : w6.cell? ⟨X, 3, none⟩ = some (.int .i64 x.str) := bx6.cell 3
  have f4 : w6.cell? ⟨X, 4, none⟩ = some (.int .i64 x.shr) := bx6.cell 4
  have f5 : w6.cell? ⟨X, 5, none⟩ = some (.int .i64 x.wid) := bx6.cell 5
  have x1' := Hx.out.fr
  have Hfl := hide (Fill_ok g2 0 P c2 x x.nat x.str x.shr w6 hr6 ⟨hcap.1, hcap.2⟩ Hv.out Hx.out (by omega))
  go_upto_region 10 with (go_at_call 13; refine Hfl.out.mono ?_; rintro e w7 ⟨A7, c7, rfl, hown7, hb7⟩)
  have bx7 := bx6.below hb7 bx6.lt
  have hr7 := hr6.below hb7
  have hl7 := hl6.trans (hb7.mono (Nat.le_trans hX (Nat.le_of_lt bx6.lt)))
  have hg7 := RdI.of_own hown7
  have hlc7 := own_cap hown7
  have hol := fOut_len (P := P) (x := x) (x.en - x.fr)
  have hM7 : M ≤ w7.heap.size := Nat.le_trans hX (Nat.le_of_lt bx7.lt)
  clear f0 f1 f2 f3 f4 f5 Hfl bx6 hr6 hl6 hb7 hown7 hX
  have f0 : w7.cell? ⟨X, 0, none⟩ = some (.int .i64 x.fr) := bx7.cell 0
  have f1 : w7.cell? ⟨X, 1, none⟩ = some (.int .i64 x.en) := bx7.cell 1
  have d1 : ¬ c2 = x.fr := by omega
  go_upto_region 13 with fail
  go_wp2_with fail
  go_loopw [15, 16, 78] (fun a1 a2 a3 wr => ∃ j : Nat, j ≤ x.en - x.fr ∧ a3 = .int .i64 j ∧ a1 = .int .i64 (fSum P x j) ∧ a2 = .int .i64 ((fOut P x j).length : Int) ∧ Below w7.heap.size w7 wr) (fun _ _ a3 _ => (x.en - x.fr) - (intOf a3).toNat)
  case atStart => exact ⟨0, by omega, rfl, by rw [fSum_zero], rfl, Below.refl _ _⟩
  case round =>
    obtain ⟨j, hj, rfl, rfl, rfl, hb8⟩ := hrel
    by_cases hjl : j < x.en - x.fr
    · have hr8 := hr7.below hb8
      obtain ⟨e0, e1, e2, e3, e4, e5⟩ := part_at (off := 0) hr8 (show x.fr + j < P.n by omega)
      rw [Nat.zero_add] at e0 e1 e2 e3 e4 e5
      go_upto_region 16 with fail
      have hb9 := hb8.alloc hb8.size (.cells #[.int .i64 (P.kd (x.fr + j)), .int .i64 (P.wd (x.fr + j)), .int .i64 (P.st (x.fr + j)), .int .i64 (P.sh (x.fr + j)), .int .i64 (P.co (x.fr + j)), .bool (P.fl (x.fr + j))] 39)
      have bp := Blk.new wr 39 #[.int .i64 (P.kd (x.fr + j)), .int .i64 (P.wd (x.fr + j)), .int .i64 (P.st (x.fr + j)), .int .i64 (P.sh (x.fr + j)), .int .i64 (P.co (x.fr + j)), .bool (P.fl (x.fr + j))]
      clear e0 e1 e2 e3 e4 e5 hr8 hb8
      generalize wr.alloc (.cells #[.int .i64 (P.kd (x.fr + j)), .int .i64 (P.wd (x.fr + j)), .int .i64 (P.st (x.fr + j)), .int .i64 (P.sh (x.fr + j)), .int .i64 (P.co (x.fr + j)), .bool (P.fl (x.fr + j))] 39) = wp at *
      generalize wr.heap.size = Y at *
      have f0 : wp.cell? ⟨Y, 0, none⟩ = some (.int .i64 (P.kd (x.fr + j))) := bp.cell 0
      have f1 : wp.cell? ⟨Y, 1, none⟩ = some (.int .i64 (P.wd (x.fr + j))) := bp.cell 1
      have f3 : wp.cell? ⟨Y, 3, none⟩ = some (.int .i64 (P.sh (x.fr + j))) := bp.cell 3
      have s1 := fSum_bd Hx.out Hv.out (show x.fr + j ≤ x.en by omega)
      have hwd := Hv.out.wide (x.fr + j) (by omega)
      have hsh := Hv.out.shr (x.fr + j) (by omega)
      have hkd := Hv.out.kind (x.fr + j) (by omega)
      have hgb := glue_bd Hx.out Hv.out (show x.fr + j < x.en by omega)
      clear bp
      rcases (show P.kd (x.fr + j) = 0 ∨ P.kd (x.fr + j) = 1 ∨ P.kd (x.fr + j) = 2 by omega) with hk0 | hk0 | hk0
      · have Hs := hide (fSum_box (x := x) Hv.out (show x.fr + j < P.n by omega) hk0)
        have Ho := hide (fOut_not (P := P) (x := x) (j := j) (by omega))
        rw [hk0] at f0
        have r1 : IntKind.i64.wrap (fSum P x j + P.wd (x.fr + j)) = fSum P x j + P.wd (x.fr + j) := IntWalk.i64_in _ (by omega)
        clear hk0 hkd hgb
        go_wp2_with fail
        go_roundw
        case rel => exact ⟨j + 1, by omega, by go_num, by rw [Hs.out], by rw [Ho.out], hb9⟩
        case measure => simp [intOf]; omega
      · have Hs := hide (fSum_glue (x := x) hk0)
        obtain ⟨o1, o2, o3⟩ := fOut_at (P := P) (x := x) hjl hk0
        obtain ⟨b7, off7, rfl, hc7⟩ : ∃ b7 off7, A7 = some ⟨b7, off7, none⟩ ∧ w7.cell? ⟨b7, off7 + (fOut P x j).length, none⟩ = some (.int .i64 (ix (fOut P x (x.en - x.fr)) (fOut P x j).length)) := hg7.at_ o1
        rw [o2] at hc7
        have c7 : wp.cell? ⟨b7, off7 + (fOut P x j).length, none⟩ = some (.int .i64 (P.wd (x.fr + j) + fSg x * fShare P x j)) := (hb9.cell (p := ⟨b7, off7 + (fOut P x j).length, none⟩) (World.block_lt_of_cell? _ _ hc7)).trans hc7
        have Ho := hide o3
        rw [hk0] at f0
        clear hk0 hkd hc7 o2 o3
        generalize hG : P.wd (x.fr + j) + fSg x * fShare P x j = gv at *
        generalize fSum P x j = sm at *
        generalize hF : (fOut P x j).length = m at *
        generalize P.wd (x.fr + j) = wd at *
        generalize P.sh (x.fr + j) = sh at *
        have HF := hide hF
        have gb : -400000 ≤ gv ∧ gv ≤ 400300 := by omega
        have d1 : decide (gv < wd - sh) = false := decide_eq_false (by omega)
        have d2 : ((m : Int) == ((fOut P x (x.en - x.fr)).length : Int)) = false := beq_eq_false_iff_ne.2 (by omega)
        have r1 : IntKind.i64.wrap (wd - sh) = wd - sh := IntWalk.i64_in _ (by omega)
        have r2 : IntKind.i64.wrap (sm + gv) = sm + gv := IntWalk.i64_in _ (by omega)
        clear hgb hG hF
        go_upto_region 22 with fail
        have hbn : ∀ n, (wp.drewN n).cell? ⟨b7, off7 + m, none⟩ = some (.int .i64 gv) ∧ Below w7.heap.size w7 (wp.drewN n) := fun n => ⟨c7, below_drewN hb9 n⟩
        have Hbn := hide hbn
        clear hbn hb9
        go_quiet (fail)
        go_wp2_with fail
        go_roundw
        case rel => exact ⟨j + 1, by omega, by go_num, by rw [Hs.out], by rw [Ho.out]; go_num, (Hbn.out _).2⟩
        case measure => simp [intOf]; omega
      · have Hs := hide (fSum_pen (x := x) Hv.out (show x.fr + j < P.n by omega) hk0)
        have Ho := hide (fOut_not (P := P) (x := x) (j := j) (by omega))
        rw [hk0] at f0
        clear hk0 hkd hgb
        go_wp2_with fail
        go_roundw
        case rel => exact ⟨j + 1, by omega, by go_num, by rw [Hs.out], by rw [Ho.out], hb9⟩
        case measure => simp [intOf]; omega
    · obtain rfl : j = x.en - x.fr := by omega
      have hr8 := hr7.below hb8
      have bx8 := bx7.below hb8 bx7.lt
      have hl8 := hl7.trans (hb8.mono hM7)
      have hM8 : M ≤ wr.heap.size := Nat.le_trans hM7 hb8.size
      have hall := fSum_all Hx.out Hv.out
      have sbd := fSum_bd Hx.out Hv.out (show x.fr + (x.en - x.fr) ≤ x.en by omega)
      have abd := added_bd Hv.out x.en
      have hadd : added P x.en = if P.kd x.en = 2 then P.wd x.en else 0 := by
        unfold added
        by_cases h : P.kd x.en = 2
        · rw [if_pos ⟨hxe, h⟩, if_pos h]
        · rw [if_neg (fun hh => h hh.2), if_neg h]
      have hbd := Hx.out.bd Hv.out
      have hwid := Hx.out.wid
      have hwd := Hv.out.wide x.en hxe
      obtain ⟨e0, e1, e2, e3, e4, e5⟩ := part_at (off := 0) (fr := x.en) (j := 0) hr8 (by omega)
      simp only [Nat.zero_add, Nat.zero_mul, Nat.add_zero] at e0 e1 e2 e3 e4 e5
      have m1 : wr.cell? ⟨X, 1, none⟩ = some (.int .i64 x.en) := bx8.cell 1
      clear f0 f1 hr7 bx7 hl7 hb8 hg7 hj hjl
      generalize fSum P x (x.en - x.fr) = sm at *
      generalize added P x.en = ad at *
      have Hall := hide hall
      have Hadd := hide hadd
      clear hall hadd
      go_upto_region 28 with fail
      have hl9 := hl8.alloc hM8 (.cells #[.int .i64 (P.kd (x.en)), .int .i64 (P.wd (x.en)), .int .i64 (P.st (x.en)), .int .i64 (P.sh (x.en)), .int .i64 (P.co (x.en)), .bool (P.fl (x.en))] 39)
      have bx9 := bx8.alloc (.cells #[.int .i64 (P.kd (x.en)), .int .i64 (P.wd (x.en)), .int .i64 (P.st (x.en)), .int .i64 (P.sh (x.en)), .int .i64 (P.co (x.en)), .bool (P.fl (x.en))] 39)
      have bp := Blk.new wr 39 #[.int .i64 (P.kd (x.en)), .int .i64 (P.wd (x.en)), .int .i64 (P.st (x.en)), .int .i64 (P.sh (x.en)), .int .i64 (P.co (x.en)), .bool (P.fl (x.en))]
      clear e0 e1 e2 e3 e4 e5 hr8 hl8 bx8 m1
      generalize wr.alloc (.cells #[.int .i64 (P.kd (x.en)), .int .i64 (P.wd (x.en)), .int .i64 (P.st (x.en)), .int .i64 (P.sh (x.en)), .int .i64 (P.co (x.en)), .bool (P.fl (x.en))] 39) = wp at *
      generalize wr.heap.size = Y at *
      have p0 : wp.cell? ⟨Y, 0, none⟩ = some (.int .i64 (P.kd x.en)) := bp.cell 0
      have p1 : wp.cell? ⟨Y, 1, none⟩ = some (.int .i64 (P.wd x.en)) := bp.cell 1
      have f2 : wp.cell? ⟨X, 2, none⟩ = some (.int .i64 x.nat) := bx9.cell 2
      have f3 : wp.cell? ⟨X, 3, none⟩ = some (.int .i64 x.str) := bx9.cell 3
      have f4 : wp.cell? ⟨X, 4, none⟩ = some (.int .i64 x.shr) := bx9.cell 4
      have f5 : wp.cell? ⟨X, 5, none⟩ = some (.int .i64 x.wid) := bx9.cell 5
      clear bp bx9
      generalize P.kd x.en = kd at *
      generalize P.wd x.en = wd at *
      go_upto_if 122 with fail
      go_cut [15] (fun v wc => v = .int .i64 (sm + ad) ∧ wc = wp)
      case first =>
        by_cases hk : kd = 2
        · have r1 : IntKind.i64.wrap (sm + wd) = sm + wd := IntWalk.i64_in _ (by omega)
          have ha := Hadd.out
          rw [if_pos hk] at ha
          have Ha := hide ha
          subst hk
          clear ha
          go_wp2_with fail
          go_meet
          exact ⟨by rw [Ha.out], rfl⟩
        · have ha := Hadd.out
          rw [if_neg hk] at ha
          have Ha := hide ha
          have hk2 : (kd == 2) = false := beq_eq_false_iff_ne.2 hk
          clear ha hk
          go_wp2_with fail
          go_meet
          exact ⟨by rw [Ha.out, Int.add_zero], rfl⟩
      case rest =>
        obtain ⟨rfl, hwc⟩ := hcut
        subst hwc
        have r1 : IntKind.i64.wrap (x.nat - x.shr) = x.nat - x.shr := IntWalk.i64_in _ (by omega)
        have hall := Hall.out
        have hfin : Below w.heap.size w wc := by rw [← Hw.out]; exact hl9
        have Hfin := hide hfin
        clear hl9 hfin Hadd p0 p1
        generalize sm + ad = tot at *
        by_cases h1 : x.nat - x.shr > x.wid
        · rw [if_pos h1] at hall
          subst hall
          have b1 : decide (x.wid < x.nat - x.shr) = true := decide_eq_true h1
          clear h1
          go_wp2_with fail
          go_ret
          exact ⟨by simp, Hfin.out⟩
        · rw [if_neg h1] at hall
          have b1 : decide (x.wid < x.nat - x.shr) = false := decide_eq_false h1
          by_cases h2 : x.nat > x.wid
          · rw [if_pos (.inl h2)] at hall
            subst hall
            have b2 : decide (x.wid < x.nat) = true := decide_eq_true h2
            clear h1 h2
            go_wp2_with fail
            go_ret
            exact ⟨by simp, Hfin.out⟩
          · by_cases h3 : x.str > 0
            · rw [if_pos (.inr h3)] at hall
              subst hall
              have b2 : decide (x.wid < x.nat) = false := decide_eq_false h2
              have b3 : decide (0 < x.str) = true := decide_eq_true h3
              clear h1 h2 h3
              go_wp2_with fail
              go_ret
              exact ⟨by simp, Hfin.out⟩
            · rw [if_neg (by omega)] at hall
              subst hall
              have b2 : decide (x.wid < x.nat) = false := decide_eq_false h2
              have b3 : decide (0 < x.str) = false := decide_eq_false h3
              clear h1 h2 h3
              go_wp2_with fail
              go_ret
              exact ⟨by simp, Hfin.out⟩

theorem walked : Walked Try.checked.prog 5 Try.f5 := by
  intro H enc W args ds ps hval hA
  rw [Try.params5] at hA hval
  obtain ⟨v0, v1, v2, d0, d1, d2, p0, p1, p2, hargs, rfl, rfl, h0, h1, h2⟩ := trodAll_three hA
  obtain rfl : args = #[v0, v1, v2] := by cases args; simp_all
  obtain ⟨x, rfl, _, _, wx⟩ := open_int Try.underlying3 (hval 2 _ _ rfl rfl) h2
  obtain ⟨a0, l0, k0, rfl⟩ := okWide_slice Try.underlying22 (hval 0 _ _ rfl rfl)
  obtain ⟨fuel, h0⟩ := h0
  obtain ⟨A, Q, c, hs, hr, hq⟩ := parts_trod (v := .slice a0 l0 k0) h0
  obtain ⟨Aw, Z, cw, D, rfl, hz, hzl, hzw, hd⟩ := lshape_trod (hval 1 _ _ rfl rfl) h1
  rw [hs]
  exact walk A Q c Aw Z cw D x W hr hq hz hzl hzw hd wx

theorem lifted (os : Os) (started : os.Started) (H : Type) (enc : TypeId × Value → H) :
    ReturnsInHanded {} Try.checked os 5 .any (Rows.linesFilledSpec.pre6 enc Try.prog Try.f5 Rows.linesFilledRow.domain false) (Rows.linesFilledSpec.post enc Try.prog Try.f5 false true false false) :=
  law_lift (C := Try.checked) (tb := 4) (by kernel_rfl) started (by kernel_rfl) Try.func5 rfl
    (fun ds h => match ds, h with | [_, _, _], _ => rfl) rfl Try.underlying4 (by kernel_rfl) (by kernel_rfl)
    (ChangeSpec.witness6 (enc := enc) (C := Try.checked) false ⟨#[], #[.slice none 0 0, .agg #[.slice none 0 0, .int .i64 0], .int .i64 0], []⟩ 8 (by kernel_rfl) (by kernel_rfl) (by kernel_rfl) (by kernel_rfl))
    walked

/-- THE STATEMENT -/
theorem proved : Rows.LinesFilledSaid :=
  OpenClaim.holds_of_wide 5 Try.f5 rfl rfl rfl rfl rfl rfl rfl ⟨rfl, rfl, rfl, rfl, rfl⟩ rfl rfl rfl rfl rfl (by kernel_rfl) Try.func5 (by kernel_rfl)
    (of_decide_eq_true (by kernel_rfl)) (by unfold Func.isWrapper; first | (rw [if_pos (by decide +kernel)]; kernel_rfl) | (rw [if_neg (by decide +kernel)]; exact ⟨rfl, rfl⟩))
    (fun os started H enc _ => lifted os started H enc)
#print axioms proved
end Go.Proofs.Ytmjhmcjlbcadaaa.LinesFilledDone
