/- The contracts of chancerykeep3.parts and lineShape: valid parts and shapes made of any. -/
import Derived.Test.YtmjhmcjlbcadaaaLnCheck
import Derived.Test.YtmjhmcjlbcadaaaLnLinePlain
import Derived.Test.YtmjhmcjlbcadaaaWithin
import Derived.Deep.CutBlock
namespace Go.Proofs.Ytmjhmcjlbcadaaa.Ln
open Go.RowKit Go.Frm Wi

/-- the parts that are made of any parts: the first of them, and a forced break -/
def mkP (Q : Pts) (most : Nat) : Pts where
  n := min Q.n most + 1
  kd i := if i < min Q.n most then wi (Q.kd i) 0 2 else 2
  wd i := if i < min Q.n most then wi (Q.wd i) 0 300 else 0
  st i := if i < min Q.n most ∧ wi (Q.kd i) 0 2 = 1 then wi (Q.st i) 0 100 else 0
  sh i := if i < min Q.n most ∧ wi (Q.kd i) 0 2 = 1 then wi (Q.sh i) 0 (wi (Q.wd i) 0 300) else 0
  co i := if i < min Q.n most then (if wi (Q.kd i) 0 2 = 2 then wi (Q.co i) (-10000) 10000 else 0) else -10000
  fl i := decide (i < min Q.n most ∧ wi (Q.kd i) 0 2 = 2) && Q.fl i
theorem mkP_ok (Q : Pts) {most : Nat} (hm : most ≤ 900) : VP (mkP Q most) where
  few := by show min Q.n most + 1 ≤ 1000; omega
  kind i _ := by
    have := wi_bd (Q.kd i) (show (0 : Int) ≤ 2 by omega)
    show 0 ≤ (if i < min Q.n most then wi (Q.kd i) 0 2 else 2) ∧ (if i < min Q.n most then wi (Q.kd i) 0 2 else 2) ≤ 2
    split <;> omega
  wide i _ := by
    have := wi_bd (Q.wd i) (show (0 : Int) ≤ 300 by omega)
    show 0 ≤ (if i < min Q.n most then wi (Q.wd i) 0 300 else 0) ∧ (if i < min Q.n most then wi (Q.wd i) 0 300 else 0) ≤ 300
    split <;> omega
  str i _ := by
    have := wi_bd (Q.st i) (show (0 : Int) ≤ 100 by omega)
    show 0 ≤ (if i < min Q.n most ∧ wi (Q.kd i) 0 2 = 1 then wi (Q.st i) 0 100 else 0) ∧ (if i < min Q.n most ∧ wi (Q.kd i) 0 2 = 1 then wi (Q.st i) 0 100 else 0) ≤ 100
    split <;> omega
  shr i _ := by
    have h1 := wi_bd (Q.wd i) (show (0 : Int) ≤ 300 by omega)
    have h2 := wi_bd (Q.sh i) (show (0 : Int) ≤ wi (Q.wd i) 0 300 by omega)
    show 0 ≤ (if i < min Q.n most ∧ wi (Q.kd i) 0 2 = 1 then wi (Q.sh i) 0 (wi (Q.wd i) 0 300) else 0) ∧ (if i < min Q.n most ∧ wi (Q.kd i) 0 2 = 1 then wi (Q.sh i) 0 (wi (Q.wd i) 0 300) else 0) ≤ (if i < min Q.n most then wi (Q.wd i) 0 300 else 0)
    by_cases h3 : i < min Q.n most
    · rw [if_pos h3]
      split <;> omega
    · rw [if_neg (fun h => h3 h.1), if_neg h3]
      omega
  cost i _ := by
    have := wi_bd (Q.co i) (show (-10000 : Int) ≤ 10000 by omega)
    show -10000 ≤ (if i < min Q.n most then (if wi (Q.kd i) 0 2 = 2 then wi (Q.co i) (-10000) 10000 else 0) else -10000) ∧ (if i < min Q.n most then (if wi (Q.kd i) 0 2 = 2 then wi (Q.co i) (-10000) 10000 else 0) else -10000) ≤ 10000
    split
    · split <;> omega
    · omega
  glue i _ h := by
    have h' : (if i < min Q.n most then wi (Q.kd i) 0 2 else 2) ≠ 1 := h
    show (if i < min Q.n most ∧ wi (Q.kd i) 0 2 = 1 then wi (Q.st i) 0 100 else 0) = 0 ∧ (if i < min Q.n most ∧ wi (Q.kd i) 0 2 = 1 then wi (Q.sh i) 0 (wi (Q.wd i) 0 300) else 0) = 0
    have hn : ¬ (i < min Q.n most ∧ wi (Q.kd i) 0 2 = 1) := fun hh => h' (by rw [if_pos hh.1]; exact hh.2)
    rw [if_neg hn, if_neg hn]
    exact ⟨rfl, rfl⟩
  pen i _ h := by
    have h' : (if i < min Q.n most then wi (Q.kd i) 0 2 else 2) ≠ 2 := h
    show (if i < min Q.n most then (if wi (Q.kd i) 0 2 = 2 then wi (Q.co i) (-10000) 10000 else 0) else -10000) = 0 ∧ (decide (i < min Q.n most ∧ wi (Q.kd i) 0 2 = 2) && Q.fl i) = false
    have h1 : i < min Q.n most := by
      rcases Nat.lt_or_ge i (min Q.n most) with h2 | h2
      · exact h2
      · rw [if_neg (by omega)] at h'; exact absurd rfl h'
    rw [if_pos h1] at h'
    rw [if_pos h1, if_neg h']
    simp [h']

/-- parts of any numbers -/
structure WP (Q : Pts) : Prop where
  few : Q.n ≤ 9223372036854775807
  kd : ∀ i, i < Q.n → (Lit.int .i64 (Q.kd i)).wf = true
  wd : ∀ i, i < Q.n → (Lit.int .i64 (Q.wd i)).wf = true
  st : ∀ i, i < Q.n → (Lit.int .i64 (Q.st i)).wf = true
  sh : ∀ i, i < Q.n → (Lit.int .i64 (Q.sh i)).wf = true
  co : ∀ i, i < Q.n → (Lit.int .i64 (Q.co i)).wf = true
def Made (P : Pts) (w : World) (e : Ending) (w' : World) : Prop :=
  ∃ A c, e = .returned (.slice A P.n c) ∧ w'.ownsRow w.heap.size 39 6 (.slice A P.n c) P.n (rowF P.n 6 (ptV P)) ∧ Below w.heap.size w w'
def pC (a b c d e : Int) (f : Bool) : Array Value := #[.int .i64 a, .int .i64 b, .int .i64 c, .int .i64 d, .int .i64 e, .bool f]
theorem part_info : (Try.prog.info? 39).map (fun i => (i.zero, i.size, i.bytes)) = some (some (.agg #[.int .i64 0, .int .i64 0, .int .i64 0, .int .i64 0, .int .i64 0, .bool false]), 6, 48) := by kernel_rfl
/-- while a part is made -/
structure PX (gp m : Nat) (cs : Array Value) (v : Value) (f : Nat → Nat → Value) (w wc : World) : Prop where
  bp : Blk wc gp 39 cs
  row : wc.ownsRow w.heap.size 39 6 v m (rowF m 6 f)
  bel : Below w.heap.size w wc
  low : w.heap.size ≤ gp ∧ some gp ≠ v.ownBlock
theorem PX.set2 {gp m : Nat} {cs ds : Array Value} {v : Value} {f : Nat → Nat → Value} {w wc : World} (h : PX gp m cs v f w wc) {p q : Nat} (x y : Value) (hd : (cs.setIfInBounds p x).setIfInBounds q y = ds) : PX gp m ds v f w (((wc.drewN 1).setCell ⟨gp, p, none⟩ x).setCell ⟨gp, q, none⟩ y) := by
  subst hd
  have ho : ∀ {wx : World} (j : Nat) (u : Value), wx.ownsRow w.heap.size 39 6 v m (rowF m 6 f) → (wx.setCell ⟨gp, j, none⟩ u).ownsRow w.heap.size 39 6 v m (rowF m 6 f) := fun j u hx =>
    ownsRow_setCell_other hx (a := ⟨gp, j, none⟩) (fun e => h.low.2 e.symm) u
  exact ⟨((h.bp.drewN 1).set_ _ _).set_ _ _, ho q y (ho p x (own_drewN h.row 1)), ((below_drewN h.bel 1).setCell (p := ⟨gp, p, none⟩) h.low.1 _).setCell (p := ⟨gp, q, none⟩) h.low.1 _, h.low⟩
set_option maxRecDepth 100000 in
set_option maxHeartbeats 4000000 in
theorem parts_ok (A : Option Addr) (Q : Pts) (c most : Nat) (w : World) (hr : RdF w A Q.n 6 (ptV Q)) (hq : WP Q) (hm : most ≤ 900) :
    Calls Try.prog 7 #[.slice A Q.n c, .int .i64 most] w (Made (mkP Q most) w) := by
  have few := hq.few
  have Hq := hide hq
  clear hq
  go_enter Try.func7, Try.ntmps7
  go_wp2_with fail
  go_loopw [5, 6] (fun v a wr => ∃ i : Nat, i ≤ min Q.n most ∧ a = .int .i64 i ∧ wr.ownsRow w.heap.size 39 6 v i (rowF i 6 (ptV (mkP Q most))) ∧ Below w.heap.size w wr) (fun _ a _ => most - (intOf a).toNat)
  case atStart => exact ⟨0, by omega, rfl, World.ownsRow_nil _ _ _ _, Below.refl _ _⟩
  case round =>
    obtain ⟨i, hi, rfl, hown, hbl⟩ := hrel
    obtain ⟨A5, c5, rfl⟩ := own_form hown
    by_cases hlt : i < min Q.n most
    · have hin : i < Q.n := by omega
      have him : i < most := by omega
      obtain ⟨b, off, rfl, hc⟩ := (hr.below hbl).at_ hin
      have k0 : wr.cell? ⟨b, off + i * 6, none⟩ = some (.int .i64 (Q.kd i)) := hc 0 (by omega)
      have k1 : wr.cell? ⟨b, off + i * 6 + 1, none⟩ = some (.int .i64 (Q.wd i)) := hc 1 (by omega)
      have d1 : decide (i < Q.n) = true := by simpa using hin
      have d2 : decide (i < most) = true := by simpa using him
      have v0 := hide (fun wx => within_any (Q.kd i) 0 2 wx (Hq.out.kd i hin) (by omega) (by omega) (by omega))
      have v1 := hide (fun wx => within_any (Q.wd i) 0 300 wx (Hq.out.wd i hin) (by omega) (by omega) (by omega))
      have i1 : (i : Int) < (Q.n : Int) := by omega
      clear hc
      go_upto_region 5 with fail
      go_cut [7] (fun p wc => ∃ gp, p = .pointer (some ⟨gp, 0, none⟩) ∧ PX gp i (pC (wi (Q.kd i) 0 2) (wi (Q.wd i) 0 300) 0 0 0 false) (.slice A5 i c5) (ptV (mkP Q most)) w wc)
      case first =>
        have Hn := hide (And.intro hbl.size (show some wr.heap.size ≠ (Value.slice A5 i c5).ownBlock from fun hh => by have := (hown.lt _ hh.symm).2; omega))
        go_region_held3 (fun w' => w'.cell? ⟨b, off + i * 6, none⟩ = some (.int .i64 (Q.kd i)) ∧ w'.cell? ⟨b, off + i * 6 + 1, none⟩ = some (.int .i64 (Q.wd i)))
          (first | go_keep | exact ⟨k0, k1⟩)
          ((go_at_call 11; first | ((with_reducible refine (v0.out _).mono ?_); rintro e w1 ⟨rfl, rfl⟩) | ((with_reducible refine (v1.out _).mono ?_); rintro e w1 ⟨rfl, rfl⟩)))
        all_goals
          go_wp2_with fail
          go_meet
          exact ⟨wr.heap.size, rfl, (Blk.new wr _ _).drewN 1, hown.alloc _, below_drewN (hbl.alloc hbl.size _) 1, Hn.out⟩
      case rest =>
        obtain ⟨gp, rfl, hx⟩ := hcut
        have hk2 := wi_bd (Q.kd i) (show (0 : Int) ≤ 2 by omega)
        have hw2 := wi_bd (Q.wd i) (show (0 : Int) ≤ 300 by omega)
        have hb2 := hx.bel
        obtain ⟨b', off', hA, hc⟩ := (hr.below hb2).at_ hin
        injection hA with hA
        injection hA with hA hA'
        subst hA hA'
        have k2 : wc.cell? ⟨b, off + i * 6 + 2, none⟩ = some (.int .i64 (Q.st i)) := hc 2 (by omega)
        have k3 : wc.cell? ⟨b, off + i * 6 + 3, none⟩ = some (.int .i64 (Q.sh i)) := hc 3 (by omega)
        have k4 : wc.cell? ⟨b, off + i * 6 + 4, none⟩ = some (.int .i64 (Q.co i)) := hc 4 (by omega)
        have k5 : wc.cell? ⟨b, off + i * 6 + 5, none⟩ = some (.bool (Q.fl i)) := hc 5 (by omega)
        have y0 : wc.cell? ⟨gp, 0, none⟩ = some (.int .i64 (wi (Q.kd i) 0 2)) := hx.bp.cell 0
        have y1 : wc.cell? ⟨gp, 1, none⟩ = some (.int .i64 (wi (Q.wd i) 0 300)) := hx.bp.cell 1
        have hbw : b < w.heap.size := by
          obtain ⟨b2, off2, hA, hc2⟩ := hr.at_ hin
          injection hA with hA
          injection hA with hA hA'
          subst hA hA'
          exact World.block_lt_of_cell? _ _ (hc2 0 (by omega))
        have hbg : b ≠ gp := by have := hx.low.1; omega
        have hgb : gp ≠ b := fun e => hbg e.symm
        have Hx := hide hx
        clear hbw hc k0 k1 v0 v1 hx hown hbl hb2
        go_upto_block 2 with fail
        go_cut [] (fun wd => PX gp i (pC (wi (Q.kd i) 0 2) (wi (Q.wd i) 0 300) ((mkP Q most).st i) ((mkP Q most).sh i) ((mkP Q most).co i) ((mkP Q most).fl i)) (.slice A5 i c5) (ptV (mkP Q most)) w wd)
        case first =>
          have y2 : wc.cell? ⟨gp, 2, none⟩ = some (.int .i64 0) := Hx.out.bp.cell 2
          have y3 : wc.cell? ⟨gp, 3, none⟩ = some (.int .i64 0) := Hx.out.bp.cell 3
          have y4 : wc.cell? ⟨gp, 4, none⟩ = some (.int .i64 0) := Hx.out.bp.cell 4
          have y5 : wc.cell? ⟨gp, 5, none⟩ = some (.bool false) := Hx.out.bp.cell 5
          have z2 := Hx.out.bp.frozen 2
          have z3 := Hx.out.bp.frozen 3
          have z4 := Hx.out.bp.frozen 4
          have z5 := Hx.out.bp.frozen 5
          have hne : ∀ j, some (⟨gp, j, none⟩ : Addr).block ≠ (Value.slice A5 i c5).ownBlock := fun j => Hx.out.low.2
          have Hne := hide hne
          have Hst := hide (show (mkP Q most).st i = if wi (Q.kd i) 0 2 = 1 then wi (Q.st i) 0 100 else 0 by show (if _ then _ else _) = _; simp only [hlt, true_and])
          have Hsh := hide (show (mkP Q most).sh i = if wi (Q.kd i) 0 2 = 1 then wi (Q.sh i) 0 (wi (Q.wd i) 0 300) else 0 by show (if _ then _ else _) = _; simp only [hlt, true_and])
          have Hco := hide (show (mkP Q most).co i = if wi (Q.kd i) 0 2 = 2 then wi (Q.co i) (-10000) 10000 else 0 by show (if _ then _ else _) = _; rw [if_pos hlt])
          have Hfl := hide (show (mkP Q most).fl i = (decide (wi (Q.kd i) 0 2 = 2) && Q.fl i) by show (decide _ && _) = _; simp only [hlt, true_and])
          have v2 := hide (fun wx => within_any (Q.st i) 0 100 wx (Hq.out.st i hin) (by omega) (by omega) (by omega))
          have v3 := hide (fun wx => within_any (Q.sh i) 0 (wi (Q.wd i) 0 300) wx (Hq.out.sh i hin) (by omega) (by omega) (by omega))
          have v4 := hide (fun wx => within_any (Q.co i) (-10000) 10000 wx (Hq.out.co i hin) (by omega) (by omega) (by omega))
          clear hne
          generalize (mkP Q most).st i = sti at *
          generalize (mkP Q most).sh i = shi at *
          generalize (mkP Q most).co i = coi at *
          generalize (mkP Q most).fl i = fli at *
          generalize wi (Q.kd i) 0 2 = kd at *
          generalize wi (Q.wd i) 0 300 = wd at *
          rcases (show kd = 0 ∨ kd = 1 ∨ kd = 2 by omega) with rfl | rfl | rfl
          · go_wp2_with fail
            go_meet
            rw [Hst.out, Hsh.out, Hco.out, Hfl.out]
            exact Hx.out
          · go_upto_region 8 with fail
            go_region_held3 (fun w' => w'.cell? ⟨b, off + i * 6 + 2, none⟩ = some (.int .i64 (Q.st i)) ∧ w'.cell? ⟨b, off + i * 6 + 3, none⟩ = some (.int .i64 (Q.sh i)) ∧ w'.cell? ⟨gp, 1, none⟩ = some (.int .i64 wd))
              (first | exact ⟨k2, k3, y1⟩ | (simp [*, World.cell?_setCell_far, World.cell?_setCell_other]; done))
              ((go_at_call 11; first | ((with_reducible refine (v2.out _).mono ?_); rintro e w1 ⟨rfl, rfl⟩) | ((with_reducible refine (v3.out _).mono ?_); rintro e w1 ⟨rfl, rfl⟩)))
            all_goals
              go_wp2_with fail
              go_meet
              rw [Hst.out, Hsh.out, Hco.out, Hfl.out]
              exact Hx.out.set2 (p := 2) (q := 3) _ _ (by simp [pC])
          · go_upto_region 10 with fail
            go_region_held3 (fun w' => w'.cell? ⟨b, off + i * 6 + 4, none⟩ = some (.int .i64 (Q.co i)) ∧ w'.cell? ⟨b, off + i * 6 + 5, none⟩ = some (.bool (Q.fl i)))
              (first | go_keep | exact ⟨k4, k5⟩)
              ((go_at_call 11; ((with_reducible refine (v4.out _).mono ?_); rintro e w1 ⟨rfl, rfl⟩)))
            all_goals
              go_wp2_with fail
              go_meet
              rw [Hst.out, Hsh.out, Hco.out, Hfl.out]
              exact Hx.out.set2 (p := 4) (q := 5) _ _ (by simp [pC])
        case rest =>
          clear Hx y0 y1 k2 k3 k4 k5
          have hx := hcut
          clear hcut
          have ekd : (mkP Q most).kd i = wi (Q.kd i) 0 2 := by show (if _ then _ else _) = _; rw [if_pos hlt]
          have ewd : (mkP Q most).wd i = wi (Q.wd i) 0 300 := by show (if _ then _ else _) = _; rw [if_pos hlt]
          have Ekd := hide ekd
          have Ewd := hide ewd
          clear ekd ewd
          generalize hP : mkP Q most = P at *
          have HP := hide hP
          clear hP
          have y0 : wc.cell? ⟨gp, 0, none⟩ = some (.int .i64 (wi (Q.kd i) 0 2)) := hx.bp.cell 0
          have y1 : wc.cell? ⟨gp, 1, none⟩ = some (.int .i64 (wi (Q.wd i) 0 300)) := hx.bp.cell 1
          have y2 : wc.cell? ⟨gp, 2, none⟩ = some (.int .i64 (P.st i)) := hx.bp.cell 2
          have y3 : wc.cell? ⟨gp, 3, none⟩ = some (.int .i64 (P.sh i)) := hx.bp.cell 3
          have y4 : wc.cell? ⟨gp, 4, none⟩ = some (.int .i64 (P.co i)) := hx.bp.cell 4
          have y5 : wc.cell? ⟨gp, 5, none⟩ = some (.bool (P.fl i)) := hx.bp.cell 5
          have hsz : gp < wc.heap.size := hx.bp.lt
          go_wp2_with (at_builtin; refine wpL_append rfl rfl Try.underlying22 part_info rfl (by decide) rfl rfl (hx.row.alloc _) (news_at _ _ _ _ (by simp)) rfl (by simp [Value.oneCell']) (by omega) (by omega) (by have := hx.bel.size; simp; omega) ?_; intro v1 w3 hown3 hgrow3)
          have hown4 : w3.ownsRow w.heap.size 39 6 v1 (i + 1) (rowF (i + 1) 6 (ptV P)) := by
            rw [rowF_succ]
            have : (List.range 6).map (ptV P i) = [.int .i64 (wi (Q.kd i) 0 2), .int .i64 (wi (Q.wd i) 0 300), .int .i64 (P.st i), .int .i64 (P.sh i), .int .i64 (P.co i), .bool (P.fl i)] := by
              rw [← Ekd.out, ← Ewd.out]; rfl
            rw [this]
            exact hown3
          exact ⟨⟨i + 1, by omega, by simp, by rw [HP.out]; exact hown4, below_app (hx.bel.alloc hx.bel.size _) (by have := hx.bel.size; simp; omega) (hx.row.alloc _) hgrow3⟩, by simp only [intOf]; omega⟩
    · obtain rfl : i = min Q.n most := by omega
      have elast : ptV (mkP Q most) (min Q.n most) 0 = .int .i64 2 ∧ ptV (mkP Q most) (min Q.n most) 1 = .int .i64 0 ∧ ptV (mkP Q most) (min Q.n most) 2 = .int .i64 0 ∧ ptV (mkP Q most) (min Q.n most) 3 = .int .i64 0 ∧ ptV (mkP Q most) (min Q.n most) 4 = .int .i64 (-10000) ∧ ptV (mkP Q most) (min Q.n most) 5 = .bool false := by
        simp [ptV, mkP]
      have hnP : (mkP Q most).n = min Q.n most + 1 := rfl
      have HnP := hide hnP
      have Hl := hide elast
      clear elast hnP
      generalize mkP Q most = P at *
      have hd : (decide (min Q.n most < Q.n) && decide (min Q.n most < most)) = false := by
        rw [Bool.and_eq_false_iff]
        by_cases h : Q.n ≤ most
        · left; simp; omega
        · right; simp; omega
      have hfin : ∀ (v1 : Value) (w3 : World), w3.ownsRow w.heap.size 39 6 v1 (min Q.n most + 1) (rowF (min Q.n most) 6 (ptV P) ++ [.int .i64 2, .int .i64 0, .int .i64 0, .int .i64 0, .int .i64 (-10000), .bool false]) → Below w.heap.size w w3 → Made P w (.returned v1) w3 := by
        intro v1 w3 h1 h2
        obtain ⟨A1, c1, rfl⟩ := own_form h1
        refine ⟨A1, c1, by rw [HnP.out], ?_, h2⟩
        rw [HnP.out, rowF_succ]
        have : (List.range 6).map (ptV P (min Q.n most)) = [.int .i64 2, .int .i64 0, .int .i64 0, .int .i64 0, .int .i64 (-10000), .bool false] := by
          obtain ⟨a, b, c, d, e, f⟩ := Hl.out
          show [_, _, _, _, _, _] = _
          rw [a, b, c, d, e, f]
        rw [this]
        exact h1
      have Hf := hide hfin
      clear hfin
      have hb1 := hbl.size
      by_cases h10 : Q.n < most
      · have e1 : min Q.n most = Q.n := by omega
        rw [e1] at hown Hf ⊢
        clear e1 hi hlt Hl hd
        have d1 : decide ((Q.n : Int) < (Q.n : Int)) = false := by simp
        go_wp2_with (at_builtin; refine wpL_append rfl rfl Try.underlying22 part_info rfl (by decide) rfl rfl (hown.alloc _) (news_at _ _ _ _ (by simp)) rfl (by simp [Value.oneCell']) (by omega) (by omega) (by simp; omega) ?_; intro v1 w3 hown3 hgrow3)
        go_ret
        exact Hf.out _ _ hown3 (below_app (hbl.alloc hbl.size _) (by simp; omega) (hown.alloc _) hgrow3)
      · have e1 : min Q.n most = most := by omega
        rw [e1] at hown Hf ⊢
        clear e1 hi hlt Hl hd
        have d1 : decide ((most : Int) < (most : Int)) = false := by simp
        go_wp2_with (at_builtin; refine wpL_append rfl rfl Try.underlying22 part_info rfl (by decide) rfl rfl (hown.alloc _) (news_at _ _ _ _ (by simp)) rfl (by simp [Value.oneCell']) (by omega) (by omega) (by simp; omega) ?_; intro v1 w3 hown3 hgrow3)
        all_goals
          go_ret
          exact Hf.out _ _ hown3 (below_app (hbl.alloc hbl.size _) (by simp; omega) (hown.alloc _) hgrow3)
end Go.Proofs.Ytmjhmcjlbcadaaa.Ln
