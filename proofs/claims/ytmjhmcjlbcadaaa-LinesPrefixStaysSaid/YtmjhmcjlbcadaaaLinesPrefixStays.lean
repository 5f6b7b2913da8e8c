/- PROVED HERE: whatever the parts and the width, chancerykeep3.LinesPrefixStays returns true. No condition beside those of the given statement. -/
import Derived.Test.YtmjhmcjlbcadaaaLnArgs
import Derived.Test.YtmjhmcjlbcadaaaLnBroken
import Derived.Test.YtmjhmcjlbcadaaaLnBreak
import Derived.Test.YtmjhmcjlbcadaaaLnConcat
import Derived.Test.YtmjhmcjlbcadaaaChecked
import Derived.Test.YtmjhmcjlbcadaaaRows
namespace Go.Proofs.Ytmjhmcjlbcadaaa.LinesPrefixStaysDone
open Go.RowKit Go.Frm Go.ChangeShapes Go.WideShapes Go.ChangeAt Ln Wi

theorem mkP_closed (Q : Pts) (most : Nat) : Closed (mkP Q most) where
  pos := Nat.succ_pos _
  kd := by show (if min Q.n most + 1 - 1 < min Q.n most then _ else (2 : Int)) = 2; rw [if_neg (by omega)]
  co := by show (if min Q.n most + 1 - 1 < min Q.n most then _ else (-10000 : Int)) = -10000; rw [if_neg (by omega)]
theorem mkP_fl (Q : Pts) (most : Nat) : (mkP Q most).fl ((mkP Q most).n - 1) = false := by
  show (decide _ && _) = false
  rw [decide_eq_false (by show ¬ (min Q.n most + 1 - 1 < min Q.n most ∧ _); omega)]
  rfl
/-- without flags -/
def plain (P : Pts) : Pts := { P with fl := fun _ => false }
theorem plain_ok {P : Pts} (h : VP P) : VP (plain P) := ⟨h.few, h.kind, h.wide, h.str, h.shr, h.cost, h.glue, fun i hi hk => ⟨(h.pen i hi hk).1, rfl⟩⟩
theorem plain_closed {P : Pts} (h : Closed P) : Closed (plain P) := ⟨h.pos, h.kd, h.co⟩
/-- as far as the flags are off -/
def offV (P : Pts) (k i j : Nat) : Value := if j = 5 ∧ i < k then .bool false else ptV P i j
theorem off_zero (P : Pts) : rowF P.n 6 (ptV P) = rowF P.n 6 (offV P 0) := rowF_congr fun i j _ _ => by unfold offV; rw [if_neg (by omega)]
theorem off_step (P : Pts) (k : Nat) : rowF P.n 6 (upd2 (offV P k) k 5 (.bool false)) = rowF P.n 6 (offV P (k + 1)) := rowF_congr fun i j _ _ => by
  unfold upd2 offV
  by_cases h : i = k ∧ j = 5
  · rw [if_pos h, if_pos (by omega)]
  · rw [if_neg h]
    by_cases h2 : j = 5 ∧ i < k
    · rw [if_pos h2, if_pos (by omega)]
    · rw [if_neg h2, if_neg (by omega)]
theorem off_all (P : Pts) : rowF P.n 6 (offV P P.n) = rowF (plain P).n 6 (ptV (plain P)) := rowF_congr fun i j hi hj => by
  unfold offV
  match j, hj with
  | 0, _ => simp [ptV, plain]
  | 1, _ => simp [ptV, plain]
  | 2, _ => simp [ptV, plain]
  | 3, _ => simp [ptV, plain]
  | 4, _ => simp [ptV, plain]
  | 5, _ => simp [ptV, plain, hi]
set_option maxRecDepth 100000 in
set_option maxHeartbeats 4000000 in
theorem walk (A : Option Addr) (Q : Pts) (c : Nat) (A' : Option Addr) (Q' : Pts) (c' : Nat) (x : Int) (w : World) (hr : RdF w A Q.n 6 (ptV Q)) (hq : WP Q) (hr' : RdF w A' Q'.n 6 (ptV Q')) (hq' : WP Q') (hx : (Lit.int .i64 x).wf = true) :
    Calls Try.prog 4 #[.slice A Q.n c, .slice A' Q'.n c', .int .i64 x] w fun e w' => e = .returned (.bool true) ∧ Below w.heap.size w w' := by
  have hbr := hide (broken_ok w)
  have Hp1 := hide (fun wx (hb : Below w.heap.size w wx) => parts_ok A Q c 60 wx (hr.below hb) hq (by decide))
  have Hp2 := hide (fun wx (hb : Below w.heap.size w wx) => parts_ok A' Q' c' 60 wx (hr'.below hb) hq' (by decide))
  have Hwi := hide (fun wx => within_any x 1 2000 wx hx (by omega) (by omega) (by omega))
  have hwb := wi_bd x (show (1 : Int) ≤ 2000 by omega)
  clear hr hq hr' hq' hx
  go_enter Try.func4, Try.ntmps4
  go_upto_region 3 with (go_at_call 6; refine hbr.out.mono ?_; rintro e w1 ⟨rfl, hb1⟩)
  go_wp2_with fail
  refine (Hp1.out w1 hb1).mono ?_
  rintro e w2 ⟨A2, c2, rfl, hown2, hb2⟩
  have hbl2 := hb1.trans (hb2.mono hb1.size)
  go_wp2_with fail
  refine (Hp2.out w2 hbl2).mono ?_
  rintro e w3 ⟨A3, c3, rfl, hown3, hb3⟩
  have hbl3 := hbl2.trans (hb3.mono hbl2.size)
  have hr2 := RdF.of_own hown2
  have hc3 := own_cap hown3
  clear Hp1 Hp2 hbr hb1 hb2 hown2
  have hv := mkP_ok Q (show 60 ≤ 900 by decide)
  have hcl := mkP_closed Q 60
  have hfl := mkP_fl Q 60
  have hv' := mkP_ok Q' (show 60 ≤ 900 by decide)
  have hcl' := mkP_closed Q' 60
  have hn1 : (mkP Q 60).n ≤ 61 := by show min Q.n 60 + 1 ≤ 61; omega
  have hn2 : (mkP Q' 60).n ≤ 61 := by show min Q'.n 60 + 1 ≤ 61; omega
  generalize mkP Q 60 = P at *
  generalize mkP Q' 60 = R at *
  generalize wi x 1 2000 = v at *
  have Hv := hide (And.intro hv (And.intro hcl (And.intro hfl (And.intro hv' hcl'))))
  have hpos := hcl'.pos
  clear hv hcl hfl hv' hcl'
  obtain ⟨g3, rfl, hg3⟩ := own_at hown3 hpos
  have hown30 := hown3
  rw [off_zero] at hown30
  clear hown3
  go_wp2_with (go_at_call 11; refine (Hwi.out _).mono ?_; rintro e w4 ⟨rfl, rfl⟩)
  go_loopw [28] (fun a wr => ∃ k : Nat, k ≤ R.n ∧ a = .int .i64 k ∧ wr.ownsRow w2.heap.size 39 6 (.slice (some ⟨g3, 0, none⟩) R.n c3) R.n (rowF R.n 6 (offV R k)) ∧ Below w2.heap.size w2 wr) (fun a _ => R.n - (intOf a).toNat)
  case atStart => exact ⟨0, by omega, rfl, hown30, hb3⟩
  case round =>
    clear hown30 hb3 hbl3
    obtain ⟨k, hk, rfl, hown, hb⟩ := hrel
    by_cases hlt : k < R.n
    · have e5 : wr.cell? ⟨g3, k * 6 + 5, none⟩ = some (offV R k k 5) := own_cellF hown hlt (by omega)
      have ev : offV R k k 5 = .bool (R.fl k) := by unfold offV; rw [if_neg (by omega)]; rfl
      rw [ev] at e5
      have hz : wr.frozen? ⟨g3, k * 6 + 5, none⟩ = false := hown.frozenAt _
      have hown2 := own_storeF hown k (show 5 < 6 by omega) (.bool false)
      rw [off_step] at hown2
      have hb2 := hb.setCell (p := ⟨g3, k * 6 + 5, none⟩) hg3 (.bool false)
      clear hown hb ev
      go_wp2_with fail
      go_roundw
      case rel => exact ⟨k + 1, by omega, by go_num, hown2, hb2⟩
      case measure => simp [intOf]; omega
    · obtain rfl : k = R.n := by omega
      rw [off_all] at hown
      go_upto_region 10 with fail
      obtain ⟨h1v, h2v, h3v, h4v, h5v⟩ := Hv.out
      have hs : VS [v] 0 := ⟨Nat.zero_lt_one, by simp, by simp; omega, by decide⟩
      have hbl := hbl2.trans (hb.mono hbl2.size)
      have hblA := (hbl.alloc hbl.size (.cells #[.int .i64 v] 3)).alloc (by have := hbl.size; simp; omega) (.cells #[.slice (some ⟨wr.heap.size, 0, none⟩) 1 1, .int .i64 0] 25)
      have hrP := ((hr2.below hb).alloc (.cells #[.int .i64 v] 3)).alloc (.cells #[.slice (some ⟨wr.heap.size, 0, none⟩) 1 1, .int .i64 0] 25)
      have hrR := ((RdF.of_own hown).alloc (.cells #[.int .i64 v] 3)).alloc (.cells #[.slice (some ⟨wr.heap.size, 0, none⟩) 1 1, .int .i64 0] 25)
      have hrI : RdI ((wr.alloc (.cells #[.int .i64 v] 3)).alloc (.cells #[.slice (some ⟨wr.heap.size, 0, none⟩) 1 1, .int .i64 0] 25)) (some ⟨wr.heap.size, 0, none⟩) [v] := (rdI_lit wr 3 wr.heap.size [v] rfl (by simp)).alloc (.cells #[.slice (some ⟨wr.heap.size, 0, none⟩) 1 1, .int .i64 0] 25)
      have bsh := Blk.new (wr.alloc (.cells #[.int .i64 v] 3)) 25 #[.slice (some ⟨wr.heap.size, 0, none⟩) 1 1, .int .i64 0]
      rw [show (wr.alloc (.cells #[.int .i64 v] 3)).heap.size = wr.heap.size + 1 by simp] at bsh
      have hpl : (plain R).n = R.n := rfl
      have Hadd := hide (adds_up h2v (plain_closed h5v) h3v (ws := [v]) rfl 0)
      have hvR := plain_ok h4v
      have hvc := cat_ok h1v hvR (by show P.n + R.n ≤ 1000; omega)
      have hposP := h2v.pos
      have hrR' : RdF ((wr.alloc (.cells #[.int .i64 v] 3)).alloc (.cells #[.slice (some ⟨wr.heap.size, 0, none⟩) 1 1, .int .i64 0] 25)) (some ⟨g3, 0, none⟩) (plain R).n 6 (ptV (plain R)) := hrR
      have hposR : 0 < (plain R).n := hpos
      have hnR : (plain R).n ≤ 61 := hn2
      rw [← hpl]
      clear hown hb hbl hr2 hrR hbl2 Hv h2v h3v h4v h5v hpl
      generalize (wr.alloc (.cells #[.int .i64 v] 3)).alloc (.cells #[.slice (some ⟨wr.heap.size, 0, none⟩) 1 1, .int .i64 0] 25) = w5 at *
      generalize wr.heap.size = h at *
      generalize plain R = T at *
      have y0 : w5.cell? ⟨h + 1, 0, none⟩ = some (.slice (some ⟨h, 0, none⟩) 1 1) := bsh.cell 0
      have y1 : w5.cell? ⟨h + 1, 1, none⟩ = some (.int .i64 0) := bsh.cell 1
      have HB1 := hide (Break_ok A2 P c2 (some ⟨h, 0, none⟩) [v] 0 1 w5 hrP h1v hrI hs)
      have HB2 := hide (fun wx (hb : Below w5.heap.size w5 wx) => Break_ok (some ⟨g3, 0, none⟩) T c3 (some ⟨h, 0, none⟩) [v] 0 1 wx (hrR'.below hb) hvR (hrI.below hb) hs)
      have HB3 := hide (fun wx Ax cx (hb : Below w5.heap.size w5 wx) (hr : RdF wx Ax (cat P T).n 6 (ptV (cat P T))) => Break_ok Ax (cat P T) cx (some ⟨h, 0, none⟩) [v] 0 1 wx hr hvc (hrI.below hb) hs)
      have hC1 := (B_ok h1v hs.ok (D := 0) (by decide) (P.n + 1 - bg P 0) (bg P 0) 0 false (bg_bd P (Nat.zero_le _)).2 rfl).co
      have hC2 := (B_ok hvR hs.ok (D := 0) (by decide) (T.n + 1 - bg T 0) (bg T 0) 0 false (bg_bd T (Nat.zero_le _)).2 rfl).co
      have hL1 := chain_pos P [v] 0 P.n (bg P 0) 0 false
      have hL2 := chain_pos T [v] 0 T.n (bg T 0) 0 false
      clear h1v hvR hvc hs hrI
      have hk1 : ((P.n + 1 - bg P 0 : Nat) : Int) ≤ 100 := by omega
      have hk2 : ((T.n + 1 - bg T 0 : Nat) : Int) ≤ 100 := by omega
      generalize ((P.n + 1 - bg P 0 : Nat) : Int) = k1 at *
      generalize ((T.n + 1 - bg T 0 : Nat) : Int) = k2 at *
      generalize chain P [v] 0 (P.n + 1) (bg P 0) 0 false = L1 at *
      generalize chain T [v] 0 (T.n + 1) (bg T 0) 0 false = L2 at *
      generalize chain (cat P T) [v] 0 ((cat P T).n + 1) (bg (cat P T) 0) 0 false = L3 at *
      generalize (B P [v] 0 (bg P 0) 0 false).co = C1 at *
      generalize (B T [v] 0 (bg T 0) 0 false).co = C2 at *
      generalize (B (cat P T) [v] 0 (bg (cat P T) 0) 0 false).co = C3 at *
      go_upto_region 11 with (go_at_call 9; refine HB1.out.mono ?_; rintro e w6 ⟨A6, c6, rfl, hown6, hb6⟩)
      have bsh6 := bsh.below hb6 bsh.lt
      have z0 : w6.cell? ⟨h + 1, 0, none⟩ = some (.slice (some ⟨h, 0, none⟩) 1 1) := bsh6.cell 0
      have z1 : w6.cell? ⟨h + 1, 1, none⟩ = some (.int .i64 0) := bsh6.cell 1
      have lc6 := own_cap hown6
      clear y0 y1 HB1 hown6
      go_upto_region 12 with (go_at_call 9; refine (HB2.out w6 hb6).mono ?_; rintro e w7 ⟨A7, c7, rfl, hown7, hb7⟩)
      have lc7 := own_cap hown7
      have hb57 := hb6.trans (hb7.mono hb6.size)
      have bsh7 := bsh.below hb57 bsh.lt
      have x0 : w7.cell? ⟨h + 1, 0, none⟩ = some (.slice (some ⟨h, 0, none⟩) 1 1) := bsh7.cell 0
      have x1 : w7.cell? ⟨h + 1, 1, none⟩ = some (.int .i64 0) := bsh7.cell 1
      have bsh5 := bsh
      clear z0 z1 HB2 hown7 bsh6 hb6 hb7 bsh bsh7
      have hrP7 := (hrP.below hb57).alloc (.cells #[.slice A2 P.n c2, .slice (some ⟨g3, 0, none⟩) T.n c3] 22)
      have hrR7 := (hrR'.below hb57).alloc (.cells #[.slice A2 P.n c2, .slice (some ⟨g3, 0, none⟩) T.n c3] 22)
      have bj := Blk.new w7 22 #[.slice A2 P.n c2, .slice (some ⟨g3, 0, none⟩) T.n c3]
      have hcc := concatP_ok w7.heap.size 2 2 (fun i => if i = 0 then A2 else some ⟨g3, 0, none⟩) (fun i => if i = 0 then c2 else c3) (fun i => if i = 0 then P else T) (w7.alloc (.cells #[.slice A2 P.n c2, .slice (some ⟨g3, 0, none⟩) T.n c3] 22)).drew (by decide)
        (fun i hi => by
          rcases (show i = 0 ∨ i = 1 by omega) with rfl | rfl
          · exact bj.cell 0
          · exact bj.cell 1)
        (fun i hi => by
          rcases (show i = 0 ∨ i = 1 by omega) with rfl | rfl
          · exact hrP7
          · exact hrR7)
        (fun i hi => by
          rcases (show i = 0 ∨ i = 1 by omega) with rfl | rfl
          · exact hposP
          · exact hposR) (by decide) (by show 0 + P.n + T.n ≤ 100000; omega)
      have hb8 : Below w5.heap.size w5 (w7.alloc (.cells #[.slice A2 P.n c2, .slice (some ⟨g3, 0, none⟩) T.n c3] 22)).drew := below_drewN (hb57.alloc hb57.size _) 1
      have hcc2 : Calls Try.prog 12 #[.slice (some ⟨w7.heap.size, 0, none⟩) 2 2] (w7.alloc (.cells #[.slice A2 P.n c2, .slice (some ⟨g3, 0, none⟩) T.n c3] 22)).drew
          (fun e w9 => ∃ A9 c9, e = .returned (.slice A9 (cat P T).n c9) ∧ RdF w9 A9 (cat P T).n 6 (ptV (cat P T)) ∧ Below w5.heap.size w5 w9) := hcc.mono (by
        rintro e w9 ⟨A9, c9, rfl, hown9, hb9⟩
        have e1 : cnt (fun i => if i = 0 then P else T) 2 = (cat P T).n := by show 0 + P.n + T.n = P.n + T.n; omega
        have e2 : cells (fun i => if i = 0 then P else T) 2 = rowF (cat P T).n 6 (ptV (cat P T)) := rowF_cat P T
        rw [e1, e2] at hown9
        exact ⟨A9, c9, by rw [e1], RdF.of_own hown9, hb8.trans (hb9.mono hb8.size)⟩)
      have Hcc := hide hcc2
      clear hcc hcc2 bj hrP7 hrR7
      go_region_held3 (fun w' => w'.cell? ⟨h + 1, 0, none⟩ = some (.slice (some ⟨h, 0, none⟩) 1 1) ∧ w'.cell? ⟨h + 1, 1, none⟩ = some (.int .i64 0))
        (first | go_keep | exact ⟨x0, x1⟩ | exact ⟨by assumption, by assumption⟩)
        (first
          | (go_at_call 12; (with_reducible refine Hcc.out.mono ?_); rintro e w9 ⟨A9, c9, rfl, hr9, hb9⟩; have s0 := (bsh5.below hb9 bsh5.lt).cell 0; have s1 := (bsh5.below hb9 bsh5.lt).cell 1)
          | (go_at_call 9; refine (HB3.out _ _ _ hb9 hr9).mono ?_; rintro e w10 ⟨A10, c10, rfl, hown10, hb10⟩; have lc10 := own_cap hown10; have hb11 := hb9.trans (hb10.mono hb9.size); have s2 := (bsh5.below hb11 bsh5.lt).cell 0; have s3 := (bsh5.below hb11 bsh5.lt).cell 1))
      all_goals
        obtain ⟨a1, a2⟩ := Hadd.out
        subst a1
        have q1 : IntKind.i64.wrap (C1 + C2) = C1 + C2 := IntWalk.i64_in _ (by omega)
        have q2 : (L3.length : Int) = (L1.length : Int) + (L2.length : Int) := by omega
        have q3 : ((L3.length : Int) == (L1.length : Int) + (L2.length : Int)) = true := by rw [q2]; simp
        have hfin : Below w.heap.size w w10 := hblA.trans (hb11.mono hblA.size)
        clear Hadd a2
        go_wp2_with fail
        go_ret
        exact ⟨by simp [q2], hfin⟩

theorem walked : Walked Try.checked.prog 4 Try.f4 := by
  intro H enc W args ds ps hval hA
  rw [Try.params4] at hA hval
  obtain ⟨v0, v1, v2, d0, d1, d2, p0, p1, p2, hargs, rfl, rfl, h0, h1, h2⟩ := trodAll_three hA
  obtain rfl : args = #[v0, v1, v2] := by cases args; simp_all
  obtain ⟨x, rfl, _, _, wx⟩ := open_int Try.underlying3 (hval 2 _ _ rfl rfl) h2
  obtain ⟨a0, l0, k0, rfl⟩ := okWide_slice Try.underlying22 (hval 0 _ _ rfl rfl)
  obtain ⟨a1, l1, k1, rfl⟩ := okWide_slice Try.underlying22 (hval 1 _ _ rfl rfl)
  obtain ⟨fuel, h0⟩ := h0
  obtain ⟨fuel1, h1⟩ := h1
  obtain ⟨A, Q, c, hs, hr, hq⟩ := parts_trod (v := .slice a0 l0 k0) h0
  obtain ⟨A', Q', c', hs', hr', hq'⟩ := parts_trod (v := .slice a1 l1 k1) h1
  rw [hs, hs']
  exact walk A Q c A' Q' c' x W hr hq hr' hq' wx

theorem lifted (os : Os) (started : os.Started) (H : Type) (enc : TypeId × Value → H) :
    ReturnsInHanded {} Try.checked os 4 .any (Rows.linesPrefixStaysSpec.pre6 enc Try.prog Try.f4 Rows.linesPrefixStaysRow.domain false) (Rows.linesPrefixStaysSpec.post enc Try.prog Try.f4 false true false false) :=
  law_lift (C := Try.checked) (tb := 4) (by kernel_rfl) started (by kernel_rfl) Try.func4 rfl
    (fun ds h => match ds, h with | [_, _, _], _ => rfl) rfl Try.underlying4 (by kernel_rfl) (by kernel_rfl)
    (ChangeSpec.witness6 (enc := enc) (C := Try.checked) false ⟨#[], #[.slice none 0 0, .slice none 0 0, .int .i64 0], []⟩ 8 (by kernel_rfl) (by kernel_rfl) (by kernel_rfl) (by kernel_rfl))
    walked

/-- THE STATEMENT -/
theorem proved : Rows.LinesPrefixStaysSaid :=
  OpenClaim.holds_of_wide 4 Try.f4 rfl rfl rfl rfl rfl rfl rfl ⟨rfl, rfl, rfl, rfl, rfl⟩ rfl rfl rfl rfl rfl (by kernel_rfl) Try.func4 (by kernel_rfl)
    (of_decide_eq_true (by kernel_rfl)) (by unfold Func.isWrapper; first | (rw [if_pos (by decide +kernel)]; kernel_rfl) | (rw [if_neg (by decide +kernel)]; exact ⟨rfl, rfl⟩))
    (fun os started H enc _ => lifted os started H enc)
#print axioms proved
end Go.Proofs.Ytmjhmcjlbcadaaa.LinesPrefixStaysDone
