/- The contract of (*para).pairs: the ends of isolates. -/
import Derived.Test.YtdikfldogmbeaaaDoorBdFirst
namespace Go.Proofs.YtdikfldogmbeaaaDoor.Bd
open Go.RowKit Go.Frm

theorem pr_bd (C : Nat → Int) : ∀ i, (pr C i).m ≤ i ∧ ∀ j, j < (pr C i).m → (pr C i).S j < i
  | 0 => ⟨Nat.le_refl _, fun j hj => by simp [pr] at hj⟩
  | i + 1 => by
    obtain ⟨h1, h2⟩ := pr_bd C i
    show (prStep C i (pr C i)).m ≤ i + 1 ∧ ∀ j, j < (prStep C i (pr C i)).m → (prStep C i (pr C i)).S j < i + 1
    unfold prStep
    split
    · refine ⟨by show (pr C i).m + 1 ≤ i + 1; omega, fun j hj => ?_⟩
      show upd (pr C i).S (pr C i).m i j < i + 1
      replace hj : j < (pr C i).m + 1 := hj
      unfold upd
      split
      · omega
      · have := h2 j (by omega); omega
    · split
      · refine ⟨by show (pr C i).m - 1 ≤ i + 1; omega, fun j hj => ?_⟩
        replace hj : j < (pr C i).m - 1 := hj
        have := h2 j (by omega)
        show (pr C i).S j < i + 1
        omega
      · exact ⟨by show (pr C i).m ≤ i + 1; omega, fun j hj => by have := h2 j hj; show (pr C i).S j < i + 1; omega⟩

/-- the cells of a paragraph -/
def paC (At : Option Addr) (ct n gc gl : Nat) (base : Int) (go : Nat) (mt : Value) : Array Value :=
  #[.slice At n ct, .slice (some ⟨gc, 0, none⟩) n n, .slice (some ⟨gl, 0, none⟩) n n, .int .i64 base, .slice (some ⟨go, 0, none⟩) n n, mt]
set_option maxRecDepth 100000 in
set_option maxHeartbeats 2000000 in
theorem pairs_ok (G : Nat) (At : Option Addr) (ct n gc gl : Nat) (base : Int) (go : Nat) (C : Nat → Int) (w : World) (hp : Blk w G 44 (paC At ct n gc gl base go (.slice none 0 0))) (hc : BI w gc n C) (hn : n ≤ 100000) :
    Calls Tryd.prog 19 #[.pointer (some ⟨G, 0, none⟩)] w fun e w' => ∃ gm, e = .returned (.tuple #[]) ∧ w.heap.size ≤ gm ∧ Blk w' G 44 (paC At ct n gc gl base go (.slice (some ⟨gm, 0, none⟩) n n)) ∧ BI w' gm n (pr C n).M ∧ Chg (Is G) w w' := by
  have hmk := make_ints n hn n rfl
  have c1 : w.cell? ⟨G, 1, none⟩ = some (.slice (some ⟨gc, 0, none⟩) n n) := hp.cell 1
  have c5 : w.cell? ⟨G, 5, none⟩ = some (.slice none 0 0) := hp.cell 5
  have hG := hp.lt
  have hgc := hc.lt
  have hne : G ≠ gc := blk_ne_type hp hc (by decide)
  have hfz := hp.frozen 5
  go_enter Tryd.func19, Tryd.ntmps19
  go_upto_region 1 with fail
  have hp1 : Blk ((w.setCell ⟨G, 5, none⟩ (.slice (some ⟨w.heap.size, 0, none⟩) n n)).alloc (.cells (madeCells #[.int .i64 0] n) 3)) G 44 (paC At ct n gc gl base go (.slice (some ⟨w.heap.size, 0, none⟩) n n)) := (hp.set_ 5 (.slice (some ⟨w.heap.size, 0, none⟩) n n)).alloc _
  have hc1 : BI ((w.setCell ⟨G, 5, none⟩ (.slice (some ⟨w.heap.size, 0, none⟩) n n)).alloc (.cells (madeCells #[.int .i64 0] n) 3)) gc n C := (hc.blk.far (p := ⟨G, 5, none⟩) (fun e => hne e.symm) _).alloc _
  have hm1 : BI ((w.setCell ⟨G, 5, none⟩ (.slice (some ⟨w.heap.size, 0, none⟩) n n)).alloc (.cells (madeCells #[.int .i64 0] n) 3)) w.heap.size n (fun _ => 0) := by
    have h := BI.new (w.setCell ⟨G, 5, none⟩ (.slice (some ⟨w.heap.size, 0, none⟩) n n)) n
    rwa [show (w.setCell ⟨G, 5, none⟩ (.slice (some ⟨w.heap.size, 0, none⟩) n n)).heap.size = w.heap.size by simp [World.setCell]] at h
  have hg1 : Chg (Is G) w ((w.setCell ⟨G, 5, none⟩ (.slice (some ⟨w.heap.size, 0, none⟩) n n)).alloc (.cells (madeCells #[.int .i64 0] n) 3)) := ((Chg.refl _ w).setCell (p := ⟨G, 5, none⟩) (.inl (show Is G G from rfl)) _).alloc _
  have Hs1 : Hid (((w.setCell ⟨G, 5, none⟩ (.slice (some ⟨w.heap.size, 0, none⟩) n n)).alloc (.cells (madeCells #[.int .i64 0] n) 3)).heap.size = w.heap.size + 1) := hide (by simp [World.setCell])
  generalize ((w.setCell ⟨G, 5, none⟩ (.slice (some ⟨w.heap.size, 0, none⟩) n n)).alloc (.cells (madeCells #[.int .i64 0] n) 3)) = w1 at *
  have k1 : w1.cell? ⟨G, 1, none⟩ = some (.slice (some ⟨gc, 0, none⟩) n n) := hp1.cell 1
  clear hmk c1 c5 hfz
  go_wp2_with fail
  go_loopw [2, 19] (fun v a wr => ∃ k : Nat, k ≤ n ∧ a = .int .i64 k ∧ Blk wr G 44 (paC At ct n gc gl base go (.slice (some ⟨w.heap.size, 0, none⟩) n n)) ∧ BI wr gc n C ∧ BI wr w.heap.size n (pr C k).M ∧
    wr.ownsRow (w.heap.size + 1) 3 1 v (pr C k).m (tabV (pr C k).m fun j => .int .i64 ((pr C k).S j : Nat)) ∧ Chg (Is G) w wr ∧ w.heap.size + 1 ≤ wr.heap.size) (fun _ a _ => n - (intOf a).toNat)
  case atStart => exact ⟨0, by omega, rfl, hp1, hc1, hm1, World.ownsRow_nil _ _ _ _, hg1, by rw [Hs1.out]; omega⟩
  case round =>
    clear hp1 hc1 hm1 hg1 k1 Hs1
    obtain ⟨k, hk, rfl, hpr, hcr, hmr, hown, hgr, hsz⟩ := hrel
    obtain ⟨Ao, co, rfl⟩ := own_form hown
    obtain ⟨b1, b2⟩ := pr_bd C k
    have B2 := hide b2
    by_cases hlt : k < n
    · have r1 : wr.cell? ⟨G, 1, none⟩ = some (.slice (some ⟨gc, 0, none⟩) n n) := hpr.cell 1
      have r5 : wr.cell? ⟨G, 5, none⟩ = some (.slice (some ⟨w.heap.size, 0, none⟩) n n) := hpr.cell 5
      have rc := hcr.cell hlt
      have rm := hmr.cell hlt
      have rf := hmr.frozen k
      have Hi := hide (isolate_ok (C k))
      have hstep := hide (show pr C (k + 1) = prStep C k (pr C k) from rfl)
      have hm2 := hmr.set k (-1)
      have hp2 : Blk (wr.setCell ⟨w.heap.size, k, none⟩ (.int .i64 (-1))) G _ _ := hpr.far (p := ⟨w.heap.size, k, none⟩) (by show G ≠ w.heap.size; omega) _
      have hc2 : BI (wr.setCell ⟨w.heap.size, k, none⟩ (.int .i64 (-1))) gc n C := hcr.blk.far (p := ⟨w.heap.size, k, none⟩) (by show gc ≠ w.heap.size; omega) _
      have ho2 : (wr.setCell ⟨w.heap.size, k, none⟩ (.int .i64 (-1))).ownsRow (w.heap.size + 1) 3 1 (.slice Ao (pr C k).m co) (pr C k).m (tabV (pr C k).m fun j => .int .i64 ((pr C k).S j : Nat)) := own_setCell_low hown (a := ⟨w.heap.size, k, none⟩) (by show w.heap.size < w.heap.size + 1; omega) _
      have hg2 : Chg (Is G) w (wr.setCell ⟨w.heap.size, k, none⟩ (.int .i64 (-1))) := hgr.setCell (p := ⟨w.heap.size, k, none⟩) (.inr (Nat.le_refl _)) _
      have hz2 : Hid ((wr.setCell ⟨w.heap.size, k, none⟩ (.int .i64 (-1))).heap.size = wr.heap.size) := hide (by simp [World.setCell])
      clear b2
      go_upto_region 6 with fail
      generalize wr.setCell ⟨w.heap.size, k, none⟩ (.int .i64 (-1)) = w2 at *
      have hl : w.heap.size < w2.heap.size := hm2.lt
      have hm2' := hm2
      generalize hM : (pr C k).M = M at *
      generalize hS : (pr C k).S = S at *
      generalize hm : (pr C k).m = m at *
      have HM := hide hM
      have HS := hide hS
      have Hm := hide hm
      clear hM hS hm hm2'
      have hmv : Hid (m ≤ k) := hide b1
      have hcap := own_cap ho2
      cases h1 : iso (C k) with
      | true =>
        rw [h1] at Hi
        have hst : Hid (pr C (k + 1) = ⟨upd M k (-1), upd S m k, m + 1⟩) := hide (by rw [hstep.out, prStep, if_pos h1, HM.out, HS.out, Hm.out])
        clear hstep
        go_wp2_with (first
          | (go_at_call 32; refine (Hi.out _).mono ?_; rintro e w3 ⟨rfl, rfl⟩)
          | (at_builtin; refine wpL_append rfl rfl Tryd.underlying22 int_info rfl (by decide) rfl rfl (ho2.alloc _) (news_at _ _ _ _ (by simp)) rfl (by simp [Value.oneCell']) (by omega) (by omega) (by simp; omega) ?_; intro v3 w3 hown3 hgrow3))
        have hb3 : ∀ g : Nat, g ≤ w.heap.size → some g ≠ (Value.slice Ao m co).ownBlock := fun g hg => own_not_low (ho2.alloc (.cells #[.int .i64 k] 3)) (by omega)
        have hp3 := (hp2.alloc (.cells #[.int .i64 k] 3)).grown hgrow3 (hb3 _ (by omega))
        have hc3 : BI w3 gc n C := (hc2.blk.alloc (.cells #[.int .i64 k] 3)).grown hgrow3 (hb3 _ (by omega))
        have hm3 : BI w3 w.heap.size n (upd M k (-1)) := (hm2.blk.alloc (.cells #[.int .i64 k] 3)).grown hgrow3 (hb3 _ (by omega))
        have hg3 : Chg (Is G) w w3 := (hg2.alloc (.cells #[.int .i64 k] 3)).grown hgrow3 (fun q hq => .inr (by have := (ho2.lt q hq).1; omega))
        have hz3 : w.heap.size + 1 ≤ w3.heap.size := by have := hgrow3.size; simp at this; omega
        go_roundw
        case rel => exact ⟨k + 1, by omega, by go_num, hp3, hc3, by rw [hst.out]; exact hm3, by rw [hst.out, tabV_congr (F := fun j => .int .i64 ((upd S m k j : Nat) : Int)) (G := upd (fun j => .int .i64 ((S j : Nat) : Int)) m (.int .i64 (k : Int))) (fun i _ => by unfold upd; split <;> rfl), tabV_push]; exact hown3, hg3, hz3⟩
        case measure => simp [intOf]; omega
      | false =>
        rw [h1] at Hi
        cases h2 : (C k == 22) with
        | false =>
          have hst : Hid (pr C (k + 1) = ⟨upd M k (-1), S, m⟩) := hide (by rw [hstep.out, prStep, if_neg (by rw [h1]; decide), h2, HM.out, HS.out, Hm.out]; rfl)
          clear hstep
          go_wp2_with (go_at_call 32; refine (Hi.out _).mono ?_; rintro e w3 ⟨rfl, rfl⟩)
          go_roundw
          case rel => exact ⟨k + 1, by omega, by go_num, hp2, hc2, by rw [hst.out]; exact hm2, by rw [hst.out]; exact ho2, hg2, by omega⟩
          case measure => simp [intOf]; omega
        | true =>
          by_cases hm0 : m = 0
          · subst hm0
            have hst : Hid (pr C (k + 1) = ⟨upd M k (-1), S, 0⟩) := hide (by rw [hstep.out, prStep, if_neg (by rw [h1]; decide), h2, HM.out, HS.out, Hm.out]; rfl)
            clear hstep
            go_wp2_with (go_at_call 32; refine (Hi.out _).mono ?_; rintro e w3 ⟨rfl, rfl⟩)
            go_roundw
            case rel => exact ⟨k + 1, by omega, by go_num, hp2, hc2, by rw [hst.out]; exact hm2, by rw [hst.out]; exact ho2, hg2, by omega⟩
            case measure => simp [intOf]; omega
          · have hst : Hid (pr C (k + 1) = ⟨upd (upd M k (-1)) (S (m - 1)) k, S, m - 1⟩) := hide (by rw [hstep.out, prStep, if_neg (by rw [h1]; decide), h2, HM.out, HS.out, Hm.out, show decide (0 < m) = true by simp; omega]; rfl)
            have hSl : S (m - 1) < k := B2.out (m - 1) (by omega)
            obtain ⟨go2, rfl, hgo2⟩ := own_at ho2 (by omega)
            have cS := own_cell ho2 (j := m - 1) (by omega)
            have cG : w2.cell? ⟨G, 5, none⟩ = some (.slice (some ⟨w.heap.size, 0, none⟩) n n) := hp2.cell 5
            have cM := hm2.cell (j := S (m - 1)) (by omega)
            have fM := hm2.frozen (S (m - 1))
            have hM3 := hm2.set (S (m - 1)) k
            have hp3 : Blk (w2.setCell ⟨w.heap.size, S (m - 1), none⟩ (.int .i64 k)) G _ _ := hp2.far (p := ⟨w.heap.size, S (m - 1), none⟩) (by show G ≠ w.heap.size; omega) _
            have hc3 : BI (w2.setCell ⟨w.heap.size, S (m - 1), none⟩ (.int .i64 k)) gc n C := hc2.blk.far (p := ⟨w.heap.size, S (m - 1), none⟩) (by show gc ≠ w.heap.size; omega) _
            have ho3 := own_setCell_low (own_take ho2 (k := m - 1) (by omega)) (a := ⟨w.heap.size, S (m - 1), none⟩) (by show w.heap.size < w.heap.size + 1; omega) (.int .i64 k)
            have hg3 : Chg (Is G) w (w2.setCell ⟨w.heap.size, S (m - 1), none⟩ (.int .i64 k)) := hg2.setCell (p := ⟨w.heap.size, S (m - 1), none⟩) (.inr (Nat.le_refl _)) _
            have hz3 : Hid ((w2.setCell ⟨w.heap.size, S (m - 1), none⟩ (.int .i64 k)).heap.size = w2.heap.size) := hide (by simp [World.setCell])
            have i1 : ((m : Nat) : Int) - 1 = ((m - 1 : Nat) : Int) := by omega
            have i2 : (0 : Int) < (m : Int) := by omega
            clear hstep
            go_upto_region 9 with (go_at_call 32; refine (Hi.out _).mono ?_; rintro e w3 ⟨rfl, rfl⟩)
            go_region
            have hcm : ¬ co = 0 := by have := hcap.1; omega
            go_wp2_with fail
            go_roundw
            case rel => exact ⟨k + 1, by omega, by go_num, hp3, hc3, by rw [hst.out]; exact hM3, by rw [hst.out]; exact ho3, hg3.drewN 1, by have := hz3.out; show _ ≤ (w2.setCell ⟨w.heap.size, S (m - 1), none⟩ (.int .i64 k)).heap.size; omega⟩
            case measure => simp [intOf]; omega
    · obtain rfl : k = n := by omega
      go_wp2_with fail
      refine bodyPost_end (results_none rfl _ _ _) rfl ?_
      exact ⟨w.heap.size, rfl, Nat.le_refl _, hpr, hmr, hgr⟩
end Go.Proofs.YtdikfldogmbeaaaDoor.Bd
