/- Aligning twice is aligning once; the sides agree, and nothing else moves. No condition. -/
import Derived.Test.YtnmikhmbnpiadaaDoorShapeTwice
import Derived.Test.YtnmikhmbnpiadaaDoorShapeBox
import Derived.Test.YtnmikhmbnpiadaaDoorShapeTab
import Derived.Test.YtnmikhmbnpiadaaDoorShapePt
import Derived.Test.YtnmikhmbnpiadaaDoorTie
namespace Go.Proofs.YtnmikhmbnpiadaaDoor.ShapeAlignedTwiceDone
open Go.ChangeShapes Go.WideShapes Go.ChangeAt Go.RowKit Go.Frm Wi Shp

theorem few_items {ys : List Int} {m : Nat} (hnd : ys.Nodup) (h : ∀ y ∈ ys, 1 ≤ y ∧ y ≤ (m : Int)) : ys.length ≤ m := by
  have hs : ys ⊆ (List.range m).map (fun i : Nat => (i : Int) + 1) := fun y hy => by
    obtain ⟨h1, h2⟩ := h y hy
    exact List.mem_map.2 ⟨(y - 1).toNat, List.mem_range.2 (by omega), by omega⟩
  have := hnd.length_le_of_subset hs
  simpa using this

set_option maxRecDepth 100000 in
set_option maxHeartbeats 8000000 in
theorem walk (A : Option Addr) (n c : Nat) (G : Nat → Nat → Int) (T : Nat → Nat → ByteArray) (Ai : Option Addr) (ci : Nat) (zs : List Int) (x : Int) (w : World) (hq : TabQ w) (hr : RdF w A n 12 (shV G T)) (hn : n ≤ 9223372036854775807) (hwf : ∀ i j, i < n → j < 10 → (Lit.int .i64 (G i j)).wf = true)
    (hz : RdI w Ai zs) (hzl : zs.length ≤ 9223372036854775807) (hzw : ∀ j, j < zs.length → (Lit.int .i64 (ix zs j)).wf = true) (hx : (Lit.int .i64 x).wf = true) :
    Calls Tryd.prog 7 #[.slice A n c, .slice Ai zs.length ci, .int .i64 x] w fun e w' => e = .returned (.bool true) ∧ Below w.heap.size w w' := by
  have Hq := hide hq
  have Hsh := hide (fun wx (hx : RdF wx A n 12 (shV G T)) => shapes_ok A n c G T false wx hx hn hwf)
  have Hw := hide (fun wx => within_any x 0 5 wx hx (by omega) (by omega) (by omega))
  obtain ⟨s0, s5⟩ := wi_bd x (show (0 : Int) ≤ 5 by omega)
  generalize wi x 0 5 = side at *
  have Hzw := hide hzw
  clear hq hwf hx hzw
  go_enter Tryd.func7, Tryd.ntmps7
  go_wp2_with fail
  refine (keptTurned_ok w Hq.out).mono ?_
  rintro e w1 ⟨rfl, hb1⟩
  have hr1 := hr.below hb1
  go_wp2_with fail
  refine (Hsh.out w1 hr1).mono ?_
  rintro e w2 ⟨A2, c2, rfl, hown, hb2⟩
  have hbl2 := hb1.trans (hb2.mono hb1.size)
  have hm10 : min n 10 ≤ 10 := Nat.min_le_right _ _
  have hok := flG_ok (made_ok G false hm10)
  have hpl := flG_plain G (min n 10)
  have hitem : ∀ k, flG (shG G false) (min n 10) k 0 = (k : Int) + 1 := fun k => if_neg (fun h => absurd h.2 (by decide))
  generalize min n 10 = m at *
  have hb1s := hb1.size
  have hown := ownsRow_less hown hb1s
  clear Hsh hr hr1 hb1 hb2 hn hb1s
  generalize shG G false = G2 at *
  generalize shT T = T2 at *
  have Hok := hide hok
  have Hpl := hide hpl
  have Hitem := hide hitem
  clear hok hpl hitem
  go_wp2_with (go_at_call 11; (with_reducible refine (Hw.out _).mono ?_); rintro e w4 ⟨rfl, rfl⟩)
  go_loopw [7, 28] (fun _ a wr => ∃ i : Nat, i ≤ m ∧ a = .int .i64 i ∧ wr.ownsRow w.heap.size 23 12 (.slice A2 m c2) m (rowF m 12 (shV (flG G2 i) T2)) ∧ Below w.heap.size w wr) (fun _ a _ => m - (intOf a).toNat)
  case atStart => exact ⟨0, by omega, rfl, by rw [show flG G2 0 = G2 by funext k j; unfold flG; simp]; exact hown, hbl2⟩
  case round =>
    clear hown hbl2
    obtain ⟨i, hi, rfl, hown, hbl⟩ := hrel
    by_cases hlt : i < m
    · obtain ⟨g2, rfl, hg2a, hg2b, hc2, hz2⟩ := own_addr hown (by omega)
      have z1 := hz2 (i * 12 + 1)
      have k1 := own_cellF hown hlt (show 1 < 12 by omega)
      have hst := own_storeF hown i (show 1 < 12 by omega) (.int .i64 0)
      rw [flG_step] at hst
      have hbs := hbl.setCell (p := ⟨g2, i * 12 + 1, none⟩) hg2a (.int .i64 0)
      clear hz2 hown hbl hg2b hc2 hg2a
      go_wp2_with fail
      exact ⟨⟨i + 1, by omega, by simp, hst, hbs⟩, by simp only [intOf]; omega⟩
    · have him : m = i := by omega
      subst him
      clear hlt hi
      obtain ⟨hmc, _⟩ := own_cap hown
      have Hown := hide hown
      clear hown
      obtain ⟨wo, rfl⟩ : ∃ wo : World, wo = wr := ⟨_, rfl⟩
      go_wp2_with fail
      go_loopw [8, 10, 11, 38] (fun a _ _ b wr => ∃ (i : Nat) (A8 : Option Addr) (c8 : Nat) (ys : List Int), i ≤ zs.length ∧ b = .int .i64 i ∧ a = .slice A8 ys.length c8 ∧ Hid (ys.Nodup ∧ ∀ y ∈ ys, 1 ≤ y ∧ y ≤ (m : Int)) ∧ wr.ownsRow wo.heap.size 3 1 (.slice A8 ys.length c8) ys.length (ys.map (Value.int .i64)) ∧ Below wo.heap.size wo wr) (fun _ _ _ b _ => zs.length - (intOf b).toNat)
      case atStart => exact ⟨0, none, 0, [], by omega, rfl, rfl, ⟨List.nodup_nil, fun y hy => by cases hy⟩, World.ownsRow_nil _ _ _ _, Below.refl _ _⟩
      case round =>
        obtain ⟨i, A8, c8, ys, hi, rfl, rfl, hys, how8, hblo⟩ := hrel
        have hfew := few_items hys.out.1 hys.out.2
        by_cases hlt : i < zs.length
        · obtain ⟨b, off, rfl, kz⟩ := (hz.below (hbl.trans (hblo.mono hbl.size))).at_ hlt
          have vw := hide (fun wx => within_any (ix zs i) 1 10 wx (Hzw.out i hlt) (by omega) (by omega) (by omega))
          obtain ⟨q0, q1⟩ := wi_bd (ix zs i) (show (1 : Int) ≤ 10 by omega)
          generalize wi (ix zs i) 1 10 = y at *
          have hco := hide (fun wx (hw : RdI wx A8 ys) => cont_ok A8 c8 ys y wx hw (by omega))
          have hrd := RdI.of_own how8
          have i0 : (0 : Int) ≤ (i : Int) := by omega
          have i1 : (i : Int) < (zs.length : Int) := by omega
          by_cases hym : y ≤ (m : Int)
          · have d1 : decide (y ≤ (m : Int)) = true := by simpa using hym
            cases hcv : ys.contains y with
            | true =>
              have hco2 := hide (fun wx (hw : RdI wx A8 ys) => (by have := hco.out wx hw; rw [hcv] at this; exact this : Calls Tryd.prog 17 #[.slice A8 ys.length c8, .int .i64 y] wx fun e w' => e = .returned (.bool true) ∧ w' = wx))
              clear hco hcv
              go_wp2_with (first | (go_at_call 11; (with_reducible refine (vw.out _).mono ?_); rintro e w4 ⟨rfl, rfl⟩) | (go_at_call 17; refine (hco2.out _ (by exact hrd)).mono ?_; rintro e w4 ⟨rfl, rfl⟩))
              go_roundw
              case rel => exact ⟨i + 1, A8, c8, ys, by omega, by go_num, rfl, hys, how8, hblo⟩
              case measure => simp [intOf]; omega
            | false =>
              have hco2 := hide (fun wx (hw : RdI wx A8 ys) => (by have := hco.out wx hw; rw [hcv] at this; exact this : Calls Tryd.prog 17 #[.slice A8 ys.length c8, .int .i64 y] wx fun e w' => e = .returned (.bool false) ∧ w' = wx))
              have hnm : y ∉ ys := fun hm => by
                have : ys.contains y = true := by simpa using hm
                rw [hcv] at this
                cases this
              have hys2 : Hid ((ys ++ [y]).Nodup ∧ ∀ z ∈ ys ++ [y], 1 ≤ z ∧ z ≤ (m : Int)) := by
                refine ⟨List.nodup_append.2 ⟨hys.out.1, by simp, fun a ha b hb => ?_⟩, fun z hz => ?_⟩
                · simp at hb
                  subst hb
                  rintro rfl
                  exact hnm ha
                · rcases List.mem_append.1 hz with h | h
                  · exact hys.out.2 z h
                  · simp at h
                    subst h
                    exact ⟨q0, hym⟩
              have ho5 := how8.alloc (.cells #[.int .i64 y] 3)
              have hb5 := hblo.alloc hblo.size (.cells #[.int .i64 y] 3)
              clear hco hcv hnm hys hym
              go_wp2_with (first
                | (go_at_call 11; (with_reducible refine (vw.out _).mono ?_); rintro e w4 ⟨rfl, rfl⟩)
                | (go_at_call 17; refine (hco2.out _ (by exact hrd)).mono ?_; rintro e w4 ⟨rfl, rfl⟩)
                | (at_builtin; refine wpL_append (size := 1) rfl rfl Tryd.underlying32 int_info rfl (by decide) rfl rfl ho5 (news_at _ _ _ _ rfl) rfl (by simp [Value.oneCell']) (by omega) (by omega) (by have := hb5.size; omega) ?_; intro v6 w6 hown6 hgrow6))
              obtain ⟨A9, c9, rfl⟩ := own_form hown6
              refine ⟨⟨i + 1, A9, c9, ys ++ [y], by omega, by simp, by simp, hys2, ?_, below_app hb5 hb5.size ho5 hgrow6⟩, by simp only [intOf]; omega⟩
              rw [List.length_append, List.map_append]
              exact hown6
          · have d1 : decide (y ≤ (m : Int)) = false := by simpa using hym
            clear hym
            go_wp2_with (first | (go_at_call 11; (with_reducible refine (vw.out _).mono ?_); rintro e w4 ⟨rfl, rfl⟩))
            go_roundw
            case rel => exact ⟨i + 1, A8, c8, ys, by omega, by go_num, rfl, hys, how8, hblo⟩
            case measure => simp [intOf]; omega
        · have hin : zs.length = i := by omega
          subst hin
          clear hz hlt hi
          have hown := Hown.out
          have hown' := own_below hown hblo
          have hbl' := hbl.trans (hblo.mono hbl.size)
          have hso := hbl.size
          have how := ownsRow_less how8 hbl.size
          clear hbl hblo how8 Hown hown
          by_cases h0 : ys.length = 0
          · have hy0 : ys = [] := List.eq_nil_of_length_eq_zero h0
            subst hy0
            have hal := hide (align_none A2 A8 m c2 c8 (flG G2 m) T2 side wr Hok.out (RdF.of_own hown') hmc (fun k hk => if_pos ⟨hk, rfl⟩))
            clear h0 hown' how
            go_wp2_with fail
            refine hal.out.mono ?_
            rintro e w5 ⟨rfl, hb5⟩
            have hbl5 := hbl'.trans (hb5.mono hbl'.size)
            go_wp2_with fail
            go_ret
            exact ⟨rfl, hbl5⟩
          · have hne : ys ≠ [] := fun h => h0 (by rw [h]; rfl)
            have hlow : ∀ k, k < m → flG G2 m k 1 = 0 := fun k hk => if_pos ⟨hk, rfl⟩
            have hpl4 : Plain (flG G2 m) m 10000 := fun k hk => by
              obtain ⟨a1, a2, a3, a4, a5⟩ := Hpl.out k hk
              exact ⟨a1, by omega, by omega, a4, a5⟩
            have hall : ∀ z ∈ ys, ∃ k, k < m ∧ flG G2 m k 0 = z := fun z hz => by
              obtain ⟨z1, z2⟩ := hys.out.2 z hz
              exact ⟨(z - 1).toNat, by omega, by rw [Hitem.out]; omega⟩
            have hcy := (own_cap how).1
            have hal := hide (align_ok A2 A8 m c2 c8 w.heap.size (flG G2 m) T2 ys side s0 s5 wr (Hq.out.below hbl') Hok.out hown' hmc (RdI.of_own how) hcy (by omega) hys.out.1 hne hall hlow hpl4)
            have Hpl4 := hide hpl4
            have Hlow := hide hlow
            have Hall := hide hall
            have Hown := hide hown'
            have How := hide how
            have Hne := hide hne
            have Hbl := hide hbl'
            clear hpl4 hlow hall hown' how hne hbl'
            have Hitem2 : Hid (∀ k, flG G2 m k 0 = (k : Int) + 1) := Hitem
            generalize hN : flG G2 m = N at *
            clear hN
            go_wp2_with fail
            refine hal.out.mono ?_
            rintro e w5 ⟨A12, c12, sel, lo, hi, rfl, hown5, hb5, hok5, hsel, hbd, hlo, hhi⟩
            have hpl5 := alS_plain s0 s5 Hpl.out hbd hlo hhi
            have hbl5 := Hbl.out.trans (hb5.mono Hbl.out.size)
            have hown5' := ownsRow_less hown5 Hbl.out.size
            have hit5 : ∀ k, alS N side lo hi sel k 0 = N k 0 := fun k => alS_of (by omega)
            have hp15 : ∀ k, alS N side lo hi sel k 1 = N k 1 := fun k => alS_of (by omega)
            have hc12 := (own_cap hown5).1
            have hal2 := hide (align_ok A12 A8 m c12 c8 w.heap.size (alS N side lo hi sel) T2 ys side s0 s5 w5 (Hq.out.below hbl5) hok5 hown5' hc12 (RdI.of_own (own_below How.out hb5)) hcy (by omega) hys.out.1 Hne.out (fun z hz => by obtain ⟨k, h1, h2⟩ := Hall.out z hz; exact ⟨k, h1, by rw [hit5]; exact h2⟩) (fun k hk => by rw [hp15]; exact Hlow.out k hk) hpl5)
            have Hsel := hide hsel
            have Hown5 := hide hown5'
            have Hb5 := hide hb5
            have Hbl5 := hide hbl5
            have Hside := hide (fun k hk hs => al_side (G := N) (n := m) (side := side) (lo := lo) (hi := hi) (sel := sel) s0 s5 Hpl4.out (k := k) hk hs)
            have Htw := hide (fun (h1 : side ≠ 1) (h4 : side ≠ 4) lo' hi' sel' h5 h6 h7 => al_twice (G := N) (n := m) (side := side) (lo := lo) (hi := hi) (lo' := lo') (hi' := hi') (sel := sel) (sel' := sel') s0 s5 h1 h4 Hpl4.out hpl5 h5 h6 h7)
            have Hit5 := hide hit5
            have Hpl5 := hide hpl5
            clear hal hsel hbd hlo hhi hpl5 hown5 hown5' hb5 hbl5 hit5 hp15 hok5
            go_wp2_with fail
            refine hal2.out.mono ?_
            rintro e w6 ⟨A14, c14, sel', lo', hi', rfl, hown6, hb6, _, hsel', hbd', hlo', hhi'⟩
            have hsame : side ≠ 1 → side ≠ 4 → rowF m 12 (shV (alS (alS N side lo hi sel) side lo' hi' sel') T2) = rowF m 12 (shV (alS N side lo hi sel) T2) := fun h1 h4 => rowF_congr (fun k j hk hj => by
              unfold shV
              rw [Htw.out h1 h4 lo' hi' sel' (fun k hk hs => (Hsel.out k hk).2 (by rw [← Hit5.out]; exact (hsel' k hk).1 hs)) hlo' hhi' k j hk])
            have hbl6 := Hbl5.out.trans (hb6.mono Hbl5.out.size)
            have hrN := (RdF.of_own Hown.out).below (Hb5.out.trans (hb6.mono Hb5.out.size))
            have hrY := (RdI.of_own How.out).below (Hb5.out.trans (hb6.mono Hb5.out.size))
            have hrS := (RdF.of_own Hown5.out).below hb6
            have heq := hide (fun (h1 : side ≠ 1) (h4 : side ≠ 4) => alike_shapes A12 A14 m c12 c14 (alS N side lo hi sel) T2 w6 hrS (by have := hown6; rw [hsame h1 h4] at this; exact RdF.of_own this) (by omega))
            have Hbl6 := hide hbl6
            clear hal2 hown6 hb6 hsel' hbd' hlo' hhi' hsame Htw hbl6 Hb5 Hbl5 Hown5 Hown How
            have hm0 : ((m : Int) != (m : Int)) = false := by simp
            go_upto_region 21 with fail
            go_cut [104] (fun v wc => v = .bool false ∧ ∃ d, wc = w6.drewN d)
            case first =>
              by_cases h1 : side = 1
              · have e1 : (side != 1) = false := by simp [h1]
                clear heq h1
                go_wp2_with fail
                go_meet
                exact ⟨rfl, 0, rfl⟩
              · have e1 : (side != 1) = true := by simpa using h1
                by_cases h4 : side = 4
                · have e4 : (side != 4) = false := by simp [h4]
                  clear heq h4 h1
                  go_wp2_with fail
                  go_meet
                  exact ⟨rfl, 0, rfl⟩
                · have e4 : (side != 4) = true := by simpa using h4
                  have heq2 := hide (heq.out h1 h4)
                  clear heq h4 h1
                  go_wp2_with (go_at_call 19; refine heq2.out.mono ?_; rintro e w7 ⟨rfl, d, rfl⟩)
                  go_meet
                  exact ⟨rfl, d, rfl⟩
            case rest =>
              obtain ⟨rfl, d, rfl⟩ := hcut
              have hbl6 := below_drewN Hbl6.out d
              have hrN := hrN.drewN d
              have hrY := hrY.drewN d
              have hrS := hrS.drewN d
              clear heq
              generalize w6.drewN d = wd at *
              have hy0 : 0 < ys.length := by omega
              obtain ⟨k0, hk0, hk0y⟩ : ∃ k0 : Nat, k0 < m ∧ ix ys 0 = (k0 : Int) + 1 := by
                obtain ⟨z1, z2⟩ := hys.out.2 (ix ys 0) (ix_mem hy0)
                exact ⟨(ix ys 0 - 1).toNat, by omega, by omega⟩
              have hsk0 : sel k0 = true := (Hsel.out k0 hk0).2 (by
                rw [Hitem2.out, ← hk0y]
                exact ix_mem hy0)
              have Hsk0 := hide hsk0
              clear hsk0
              go_wp2_with fail
              go_loopw [107] (fun a wr => ∃ iR : Nat, iR ≤ m ∧ a = .int .i64 iR ∧ Below wd.heap.size wd wr) (fun a _ => m - (intOf a).toNat)
              case atStart => exact ⟨0, by omega, rfl, Below.refl _ _⟩
              case round =>
                obtain ⟨iR, hile, rfl, hbl⟩ := hrel
                by_cases hlt : iR < m
                · obtain ⟨b, off, rfl, k0, k1, k2, k3, k4, k5, k6, k7, k8, k9, k10, k11⟩ := cells12 (hrN.below hbl) hlt
                  have hselI : ys.contains (N iR 0) = sel iR := by
                    have h := Hsel.out iR hlt
                    cases hs : sel iR with
                    | true => simpa using h.1 hs
                    | false =>
                      rw [hs] at h
                      cases hc : ys.contains (N iR 0) with
                      | false => rfl
                      | true => exact absurd (h.2 (by simpa using hc)) (by decide)
                  have hSne : ∀ j, j ≠ 3 → j ≠ 4 → alS N side lo hi sel iR j = N iR j := fun j h3 h4 => alS_of (by omega)
                  have hS3 : side / 3 ≠ 0 ∨ sel iR = false → alS N side lo hi sel iR 3 = N iR 3 := fun h => if_neg (fun hh => by
                    rcases h with h | h
                    · omega
                    · rw [h] at hh; exact absurd hh.2 (by decide))
                  have hS4 : side / 3 ≠ 1 ∨ sel iR = false → alS N side lo hi sel iR 4 = N iR 4 := fun h => if_neg (fun hh => by
                    rcases h with h | h
                    · omega
                    · rw [h] at hh; exact absurd hh.2 (by decide))
                  have HS3 := hide hS3
                  have HS4 := hide hS4
                  have HSne := hide hSne
                  have hco := hide (fun wx (hw : Below wd.heap.size wd wx) => (by have := cont_ok A8 c8 ys (N iR 0) wx (hrY.below hw) (by omega); rw [hselI] at this; exact this : Calls Tryd.prog 17 #[.slice A8 ys.length c8, .int .i64 (N iR 0)] wx fun e w' => e = .returned (.bool (sel iR)) ∧ w' = wx))
                  clear hS3 hS4 hSne hselI
                  go_upto_region 26 with fail
                  have bx : Blk (wr.alloc (.cells #[.int .i64 (N iR 0), .int .i64 (N iR 1), .int .i64 (N iR 2), .int .i64 (N iR 3), .int .i64 (N iR 4), .int .i64 (N iR 5), .int .i64 (N iR 6), .int .i64 (N iR 7), .int .i64 (N iR 8), .int .i64 (N iR 9), .string (T2 iR 10), .string (T2 iR 11)] 23)) wr.heap.size 23 (shC N T2 iR) := Blk.new wr _ _
                  have hb0 := hbl.alloc hbl.size (.cells #[.int .i64 (N iR 0), .int .i64 (N iR 1), .int .i64 (N iR 2), .int .i64 (N iR 3), .int .i64 (N iR 4), .int .i64 (N iR 5), .int .i64 (N iR 6), .int .i64 (N iR 7), .int .i64 (N iR 8), .int .i64 (N iR 9), .string (T2 iR 10), .string (T2 iR 11)] 23)
                  clear k0 k1 k2 k3 k4 k5 k6 k7 k8 k9 k10 k11 hbl
                  generalize wr.alloc (.cells #[.int .i64 (N iR 0), .int .i64 (N iR 1), .int .i64 (N iR 2), .int .i64 (N iR 3), .int .i64 (N iR 4), .int .i64 (N iR 5), .int .i64 (N iR 6), .int .i64 (N iR 7), .int .i64 (N iR 8), .int .i64 (N iR 9), .string (T2 iR 10), .string (T2 iR 11)] 23) = w0 at *
                  generalize wr.heap.size = g at *
                  go_cut [124] (fun v wc => v = .bool false ∧ ∃ d, wc = w0.drewN d)
                  case first =>
                    have x0 : w0.cell? ⟨g, 0, none⟩ = some (.int .i64 (N iR 0)) := bx.cell 0
                    have hgl := bx.lt
                    cases hs : sel iR with
                    | true =>
                      rw [hs] at hco
                      clear hs
                      go_quiet ((go_at_call 17; exact Calls.quiet_of_same (hco.out _ (below_drewN hb0 _))))
                      go_wp2_with fail
                      go_meet
                      exact ⟨rfl, _, rfl⟩
                    | false =>
                      rw [hs] at hco
                      obtain ⟨b12, o12, rfl, q0, q1, q2, q3, q4, q5, q6, q7, q8, q9, q10, q11⟩ := cells12 (hrS.below hb0) hlt
                      rw [HSne.out 0 (by decide) (by decide)] at q0
                      rw [HSne.out 1 (by decide) (by decide)] at q1
                      rw [HSne.out 2 (by decide) (by decide)] at q2
                      rw [HSne.out 5 (by decide) (by decide)] at q5
                      rw [HSne.out 6 (by decide) (by decide)] at q6
                      rw [HSne.out 7 (by decide) (by decide)] at q7
                      rw [HSne.out 8 (by decide) (by decide)] at q8
                      rw [HSne.out 9 (by decide) (by decide)] at q9
                      rw [HS3.out (.inr hs)] at q3
                      rw [HS4.out (.inr hs)] at q4
                      have x1 : w0.cell? ⟨g, 1, none⟩ = some (.int .i64 (N iR 1)) := bx.cell 1
                      have x2 : w0.cell? ⟨g, 2, none⟩ = some (.int .i64 (N iR 2)) := bx.cell 2
                      have x3 : w0.cell? ⟨g, 3, none⟩ = some (.int .i64 (N iR 3)) := bx.cell 3
                      have x4 : w0.cell? ⟨g, 4, none⟩ = some (.int .i64 (N iR 4)) := bx.cell 4
                      have x5 : w0.cell? ⟨g, 5, none⟩ = some (.int .i64 (N iR 5)) := bx.cell 5
                      have x6 : w0.cell? ⟨g, 6, none⟩ = some (.int .i64 (N iR 6)) := bx.cell 6
                      have x7 : w0.cell? ⟨g, 7, none⟩ = some (.int .i64 (N iR 7)) := bx.cell 7
                      have x8 : w0.cell? ⟨g, 8, none⟩ = some (.int .i64 (N iR 8)) := bx.cell 8
                      have x9 : w0.cell? ⟨g, 9, none⟩ = some (.int .i64 (N iR 9)) := bx.cell 9
                      have x10 : w0.cell? ⟨g, 10, none⟩ = some (.string (T2 iR 10)) := bx.cell 10
                      have x11 : w0.cell? ⟨g, 11, none⟩ = some (.string (T2 iR 11)) := bx.cell 11
                      clear hs HS3 HS4 HSne
                      clear bx hrN hrS Hall Hlow Hok Hpl Hpl4 Hpl5 Hside Hsel Hit5 Hitem2 Hsk0 hk0y
                      generalize N iR 0 = n0 at *
                      generalize N iR 1 = n1 at *
                      generalize N iR 2 = n2 at *
                      generalize N iR 3 = n3 at *
                      generalize N iR 4 = n4 at *
                      generalize N iR 5 = n5 at *
                      generalize N iR 6 = n6 at *
                      generalize N iR 7 = n7 at *
                      generalize N iR 8 = n8 at *
                      generalize N iR 9 = n9 at *
                      generalize T2 iR 10 = n10 at *
                      generalize T2 iR 11 = n11 at *
                      go_quiet ((go_at_call 17; exact Calls.quiet_of_same (hco.out _ (below_drewN hb0 _))))
                      go_wp2_with fail
                      go_meet
                      exact ⟨rfl, _, rfl⟩
                  case rest =>
                    obtain ⟨rfl, d26, rfl⟩ := hcut
                    have bx := bx.drewN d26
                    have hb0 := below_drewN hb0 d26
                    generalize w0.drewN d26 = w8 at *
                    go_upto_region 28 with fail
                    go_cut [150] (fun v wc => v = .bool false ∧ ∃ d, wc = w8.drewN d)
                    case first =>
                      obtain ⟨b12, o12, rfl, q0, q1, q2, q3, q4, q5, q6, q7, q8, q9, q10, q11⟩ := cells12 (hrS.below hb0) hlt
                      have x3 : w8.cell? ⟨g, 3, none⟩ = some (.int .i64 (N iR 3)) := bx.cell 3
                      have x4 : w8.cell? ⟨g, 4, none⟩ = some (.int .i64 (N iR 4)) := bx.cell 4
                      have hgl := bx.lt
                      by_cases h3 : side < 3
                      · have e1 : decide (side < 3) = true := by simpa using h3
                        have e2 : decide (side ≥ 3) = false := by simp; omega
                        rw [HS4.out (.inl (by omega))] at q4
                        clear h3
                        go_quiet (fail)
                        go_wp2_with fail
                        go_meet
                        exact ⟨rfl, _, rfl⟩
                      · have e1 : decide (side < 3) = false := by simpa using h3
                        have e2 : decide (side ≥ 3) = true := by simp; omega
                        rw [HS3.out (.inl (by omega))] at q3
                        clear h3
                        go_quiet (fail)
                        go_wp2_with fail
                        go_meet
                        exact ⟨rfl, _, rfl⟩
                    case rest =>
                      obtain ⟨rfl, d28, rfl⟩ := hcut
                      have bx := bx.drewN d28
                      have hb0 := below_drewN hb0 d28
                      generalize w8.drewN d28 = w9 at *
                      go_upto_region 30 with fail
                      have Hsd := hide (And.intro (Hside.out iR hlt) (Hside.out k0 hk0 Hsk0.out))
                      have HP5 := hide (And.intro (Hpl5.out iR hlt) (Hpl5.out k0 hk0))
                      clear HS3 HS4 HSne Hside Hpl5 Hsel Hit5 Hall Hpl Hpl4 Hlow Hok hrN
                      generalize alS N side lo hi sel = S5 at *
                      go_cut [18, 19] (fun a b wc => ∃ g1 g2, a = .pointer (some ⟨g1, 0, none⟩) ∧ b = .pointer (some ⟨g2, 0, none⟩) ∧ Blk wc g1 23 (shC S5 T2 iR) ∧ Blk wc g2 23 (shC S5 T2 k0) ∧ Below w9.heap.size w9 wc)
                      case first =>
                        obtain ⟨b12, o12, rfl, q0, q1, q2, q3, q4, q5, q6, q7, q8, q9, q10, q11⟩ := cells12 (hrS.below hb0) hlt
                        obtain ⟨b12', o12', hA12, p0, p1, p2, p3, p4, p5, p6, p7, p8, p9, p10, p11⟩ := cells12 (hrS.below hb0) hk0
                        injection hA12 with hA12
                        injection hA12 with hA1 hA2
                        subst hA1 hA2
                        obtain ⟨b8, o8, rfl, ky⟩ := (hrY.below hb0).at_ hy0
                        rw [hk0y, Nat.add_zero] at ky
                        have u1 : IntKind.i64.wrap (k0 : Int) = (k0 : Int) := IntWalk.i64_in _ (by omega)
                        have u2 : (k0 : Int) + 1 - 1 = (k0 : Int) := by omega
                        have u3 : (0 : Int) < (ys.length : Int) := by omega
                        have u4 : (k0 : Int) < (m : Int) := by omega
                        have u5 : ys.length ≠ 0 := by omega
                        have hSb : Hid (∀ w' : World, Below w9.heap.size w9 w' → (w'.cell? ⟨b12, o12 + iR * 12, none⟩ = some (.int .i64 (S5 iR 0)) ∧ w'.cell? ⟨b12, o12 + iR * 12 + 1, none⟩ = some (.int .i64 (S5 iR 1)) ∧ w'.cell? ⟨b12, o12 + iR * 12 + 2, none⟩ = some (.int .i64 (S5 iR 2)) ∧ w'.cell? ⟨b12, o12 + iR * 12 + 3, none⟩ = some (.int .i64 (S5 iR 3)) ∧ w'.cell? ⟨b12, o12 + iR * 12 + 4, none⟩ = some (.int .i64 (S5 iR 4)) ∧ w'.cell? ⟨b12, o12 + iR * 12 + 5, none⟩ = some (.int .i64 (S5 iR 5)) ∧ w'.cell? ⟨b12, o12 + iR * 12 + 6, none⟩ = some (.int .i64 (S5 iR 6)) ∧ w'.cell? ⟨b12, o12 + iR * 12 + 7, none⟩ = some (.int .i64 (S5 iR 7)) ∧ w'.cell? ⟨b12, o12 + iR * 12 + 8, none⟩ = some (.int .i64 (S5 iR 8)) ∧ w'.cell? ⟨b12, o12 + iR * 12 + 9, none⟩ = some (.int .i64 (S5 iR 9)) ∧ w'.cell? ⟨b12, o12 + iR * 12 + 10, none⟩ = some (.string (T2 iR 10)) ∧ w'.cell? ⟨b12, o12 + iR * 12 + 11, none⟩ = some (.string (T2 iR 11)) ∧ w'.cell? ⟨b12, o12 + k0 * 12, none⟩ = some (.int .i64 (S5 k0 0)) ∧ w'.cell? ⟨b12, o12 + k0 * 12 + 1, none⟩ = some (.int .i64 (S5 k0 1)) ∧ w'.cell? ⟨b12, o12 + k0 * 12 + 2, none⟩ = some (.int .i64 (S5 k0 2)) ∧ w'.cell? ⟨b12, o12 + k0 * 12 + 3, none⟩ = some (.int .i64 (S5 k0 3)) ∧ w'.cell? ⟨b12, o12 + k0 * 12 + 4, none⟩ = some (.int .i64 (S5 k0 4)) ∧ w'.cell? ⟨b12, o12 + k0 * 12 + 5, none⟩ = some (.int .i64 (S5 k0 5)) ∧ w'.cell? ⟨b12, o12 + k0 * 12 + 6, none⟩ = some (.int .i64 (S5 k0 6)) ∧ w'.cell? ⟨b12, o12 + k0 * 12 + 7, none⟩ = some (.int .i64 (S5 k0 7)) ∧ w'.cell? ⟨b12, o12 + k0 * 12 + 8, none⟩ = some (.int .i64 (S5 k0 8)) ∧ w'.cell? ⟨b12, o12 + k0 * 12 + 9, none⟩ = some (.int .i64 (S5 k0 9)) ∧ w'.cell? ⟨b12, o12 + k0 * 12 + 10, none⟩ = some (.string (T2 k0 10)) ∧ w'.cell? ⟨b12, o12 + k0 * 12 + 11, none⟩ = some (.string (T2 k0 11)) ∧ w'.cell? ⟨b8, o8, none⟩ = some (.int .i64 ((k0 : Int) + 1)))) := fun w' hw =>
                          ⟨(hw.cell (p := ⟨b12, o12 + iR * 12, none⟩) (World.block_lt_of_cell? _ _ q0)).trans q0,
                            (hw.cell (p := ⟨b12, o12 + iR * 12 + 1, none⟩) (World.block_lt_of_cell? _ _ q1)).trans q1,
                            (hw.cell (p := ⟨b12, o12 + iR * 12 + 2, none⟩) (World.block_lt_of_cell? _ _ q2)).trans q2,
                            (hw.cell (p := ⟨b12, o12 + iR * 12 + 3, none⟩) (World.block_lt_of_cell? _ _ q3)).trans q3,
                            (hw.cell (p := ⟨b12, o12 + iR * 12 + 4, none⟩) (World.block_lt_of_cell? _ _ q4)).trans q4,
                            (hw.cell (p := ⟨b12, o12 + iR * 12 + 5, none⟩) (World.block_lt_of_cell? _ _ q5)).trans q5,
                            (hw.cell (p := ⟨b12, o12 + iR * 12 + 6, none⟩) (World.block_lt_of_cell? _ _ q6)).trans q6,
                            (hw.cell (p := ⟨b12, o12 + iR * 12 + 7, none⟩) (World.block_lt_of_cell? _ _ q7)).trans q7,
                            (hw.cell (p := ⟨b12, o12 + iR * 12 + 8, none⟩) (World.block_lt_of_cell? _ _ q8)).trans q8,
                            (hw.cell (p := ⟨b12, o12 + iR * 12 + 9, none⟩) (World.block_lt_of_cell? _ _ q9)).trans q9,
                            (hw.cell (p := ⟨b12, o12 + iR * 12 + 10, none⟩) (World.block_lt_of_cell? _ _ q10)).trans q10,
                            (hw.cell (p := ⟨b12, o12 + iR * 12 + 11, none⟩) (World.block_lt_of_cell? _ _ q11)).trans q11,
                            (hw.cell (p := ⟨b12, o12 + k0 * 12, none⟩) (World.block_lt_of_cell? _ _ p0)).trans p0,
                            (hw.cell (p := ⟨b12, o12 + k0 * 12 + 1, none⟩) (World.block_lt_of_cell? _ _ p1)).trans p1,
                            (hw.cell (p := ⟨b12, o12 + k0 * 12 + 2, none⟩) (World.block_lt_of_cell? _ _ p2)).trans p2,
                            (hw.cell (p := ⟨b12, o12 + k0 * 12 + 3, none⟩) (World.block_lt_of_cell? _ _ p3)).trans p3,
                            (hw.cell (p := ⟨b12, o12 + k0 * 12 + 4, none⟩) (World.block_lt_of_cell? _ _ p4)).trans p4,
                            (hw.cell (p := ⟨b12, o12 + k0 * 12 + 5, none⟩) (World.block_lt_of_cell? _ _ p5)).trans p5,
                            (hw.cell (p := ⟨b12, o12 + k0 * 12 + 6, none⟩) (World.block_lt_of_cell? _ _ p6)).trans p6,
                            (hw.cell (p := ⟨b12, o12 + k0 * 12 + 7, none⟩) (World.block_lt_of_cell? _ _ p7)).trans p7,
                            (hw.cell (p := ⟨b12, o12 + k0 * 12 + 8, none⟩) (World.block_lt_of_cell? _ _ p8)).trans p8,
                            (hw.cell (p := ⟨b12, o12 + k0 * 12 + 9, none⟩) (World.block_lt_of_cell? _ _ p9)).trans p9,
                            (hw.cell (p := ⟨b12, o12 + k0 * 12 + 10, none⟩) (World.block_lt_of_cell? _ _ p10)).trans p10,
                            (hw.cell (p := ⟨b12, o12 + k0 * 12 + 11, none⟩) (World.block_lt_of_cell? _ _ p11)).trans p11,
                            (hw.cell (p := ⟨b8, o8, none⟩) (World.block_lt_of_cell? _ _ ky)).trans ky⟩
                        refine wp_region_held (S := fun w' : World => w'.cell? ⟨b12, o12 + iR * 12, none⟩ = some (.int .i64 (S5 iR 0)) ∧ w'.cell? ⟨b12, o12 + iR * 12 + 1, none⟩ = some (.int .i64 (S5 iR 1)) ∧ w'.cell? ⟨b12, o12 + iR * 12 + 2, none⟩ = some (.int .i64 (S5 iR 2)) ∧ w'.cell? ⟨b12, o12 + iR * 12 + 3, none⟩ = some (.int .i64 (S5 iR 3)) ∧ w'.cell? ⟨b12, o12 + iR * 12 + 4, none⟩ = some (.int .i64 (S5 iR 4)) ∧ w'.cell? ⟨b12, o12 + iR * 12 + 5, none⟩ = some (.int .i64 (S5 iR 5)) ∧ w'.cell? ⟨b12, o12 + iR * 12 + 6, none⟩ = some (.int .i64 (S5 iR 6)) ∧ w'.cell? ⟨b12, o12 + iR * 12 + 7, none⟩ = some (.int .i64 (S5 iR 7)) ∧ w'.cell? ⟨b12, o12 + iR * 12 + 8, none⟩ = some (.int .i64 (S5 iR 8)) ∧ w'.cell? ⟨b12, o12 + iR * 12 + 9, none⟩ = some (.int .i64 (S5 iR 9)) ∧ w'.cell? ⟨b12, o12 + iR * 12 + 10, none⟩ = some (.string (T2 iR 10)) ∧ w'.cell? ⟨b12, o12 + iR * 12 + 11, none⟩ = some (.string (T2 iR 11)) ∧ w'.cell? ⟨b12, o12 + k0 * 12, none⟩ = some (.int .i64 (S5 k0 0)) ∧ w'.cell? ⟨b12, o12 + k0 * 12 + 1, none⟩ = some (.int .i64 (S5 k0 1)) ∧ w'.cell? ⟨b12, o12 + k0 * 12 + 2, none⟩ = some (.int .i64 (S5 k0 2)) ∧ w'.cell? ⟨b12, o12 + k0 * 12 + 3, none⟩ = some (.int .i64 (S5 k0 3)) ∧ w'.cell? ⟨b12, o12 + k0 * 12 + 4, none⟩ = some (.int .i64 (S5 k0 4)) ∧ w'.cell? ⟨b12, o12 + k0 * 12 + 5, none⟩ = some (.int .i64 (S5 k0 5)) ∧ w'.cell? ⟨b12, o12 + k0 * 12 + 6, none⟩ = some (.int .i64 (S5 k0 6)) ∧ w'.cell? ⟨b12, o12 + k0 * 12 + 7, none⟩ = some (.int .i64 (S5 k0 7)) ∧ w'.cell? ⟨b12, o12 + k0 * 12 + 8, none⟩ = some (.int .i64 (S5 k0 8)) ∧ w'.cell? ⟨b12, o12 + k0 * 12 + 9, none⟩ = some (.int .i64 (S5 k0 9)) ∧ w'.cell? ⟨b12, o12 + k0 * 12 + 10, none⟩ = some (.string (T2 k0 10)) ∧ w'.cell? ⟨b12, o12 + k0 * 12 + 11, none⟩ = some (.string (T2 k0 11)) ∧ w'.cell? ⟨b8, o8, none⟩ = some (.int .i64 ((k0 : Int) + 1))) (by kernel_rfl) ?_
                        have hHeld : (fun w' : World => w'.cell? ⟨b12, o12 + iR * 12, none⟩ = some (.int .i64 (S5 iR 0)) ∧ w'.cell? ⟨b12, o12 + iR * 12 + 1, none⟩ = some (.int .i64 (S5 iR 1)) ∧ w'.cell? ⟨b12, o12 + iR * 12 + 2, none⟩ = some (.int .i64 (S5 iR 2)) ∧ w'.cell? ⟨b12, o12 + iR * 12 + 3, none⟩ = some (.int .i64 (S5 iR 3)) ∧ w'.cell? ⟨b12, o12 + iR * 12 + 4, none⟩ = some (.int .i64 (S5 iR 4)) ∧ w'.cell? ⟨b12, o12 + iR * 12 + 5, none⟩ = some (.int .i64 (S5 iR 5)) ∧ w'.cell? ⟨b12, o12 + iR * 12 + 6, none⟩ = some (.int .i64 (S5 iR 6)) ∧ w'.cell? ⟨b12, o12 + iR * 12 + 7, none⟩ = some (.int .i64 (S5 iR 7)) ∧ w'.cell? ⟨b12, o12 + iR * 12 + 8, none⟩ = some (.int .i64 (S5 iR 8)) ∧ w'.cell? ⟨b12, o12 + iR * 12 + 9, none⟩ = some (.int .i64 (S5 iR 9)) ∧ w'.cell? ⟨b12, o12 + iR * 12 + 10, none⟩ = some (.string (T2 iR 10)) ∧ w'.cell? ⟨b12, o12 + iR * 12 + 11, none⟩ = some (.string (T2 iR 11)) ∧ w'.cell? ⟨b12, o12 + k0 * 12, none⟩ = some (.int .i64 (S5 k0 0)) ∧ w'.cell? ⟨b12, o12 + k0 * 12 + 1, none⟩ = some (.int .i64 (S5 k0 1)) ∧ w'.cell? ⟨b12, o12 + k0 * 12 + 2, none⟩ = some (.int .i64 (S5 k0 2)) ∧ w'.cell? ⟨b12, o12 + k0 * 12 + 3, none⟩ = some (.int .i64 (S5 k0 3)) ∧ w'.cell? ⟨b12, o12 + k0 * 12 + 4, none⟩ = some (.int .i64 (S5 k0 4)) ∧ w'.cell? ⟨b12, o12 + k0 * 12 + 5, none⟩ = some (.int .i64 (S5 k0 5)) ∧ w'.cell? ⟨b12, o12 + k0 * 12 + 6, none⟩ = some (.int .i64 (S5 k0 6)) ∧ w'.cell? ⟨b12, o12 + k0 * 12 + 7, none⟩ = some (.int .i64 (S5 k0 7)) ∧ w'.cell? ⟨b12, o12 + k0 * 12 + 8, none⟩ = some (.int .i64 (S5 k0 8)) ∧ w'.cell? ⟨b12, o12 + k0 * 12 + 9, none⟩ = some (.int .i64 (S5 k0 9)) ∧ w'.cell? ⟨b12, o12 + k0 * 12 + 10, none⟩ = some (.string (T2 k0 10)) ∧ w'.cell? ⟨b12, o12 + k0 * 12 + 11, none⟩ = some (.string (T2 k0 11)) ∧ w'.cell? ⟨b8, o8, none⟩ = some (.int .i64 ((k0 : Int) + 1))) _ := ⟨q0, q1, q2, q3, q4, q5, q6, q7, q8, q9, q10, q11, p0, p1, p2, p3, p4, p5, p6, p7, p8, p9, p10, p11, ky⟩
                        refine wpAnyH_take (i := 0) (v := ?vrq0) rfl (by kernel_rfl) (by kernel_rfl) (by kernel_rfl) (fun _ _ _ h => h) (Or.inl ⟨by rfl, ?hyrq0⟩) (by assumption) ?_
                        case hyrq0 => (intro w hSw; (try dsimp only at hSw); go_simp; try with_reducible rfl)
                        try simp only [Act.put]
                        refine wpAnyH_take (i := 1) (v := ?vrq1) rfl (by kernel_rfl) (by kernel_rfl) (by kernel_rfl) (fun _ _ _ h => h) (Or.inl ⟨by rfl, ?hyrq1⟩) (by assumption) ?_
                        case hyrq1 => (intro w hSw; (try dsimp only at hSw); go_simp; try with_reducible rfl)
                        try simp only [Act.put]
                        refine wpAnyH_take (i := 2) (v := ?vrq2) rfl (by kernel_rfl) (by kernel_rfl) (by kernel_rfl) (fun _ _ _ h => h) (Or.inl ⟨by rfl, ?hyrq2⟩) (by assumption) ?_
                        case hyrq2 => (intro w hSw; (try dsimp only at hSw); go_simp; try with_reducible rfl)
                        try simp only [Act.put]
                        refine wpAnyH_take (i := 3) (v := ?vrq3) rfl (by kernel_rfl) (by kernel_rfl) (by kernel_rfl) (fun _ _ _ h => h) (Or.inl ⟨by rfl, ?hyrq3⟩) (by assumption) ?_
                        case hyrq3 => (intro w hSw; (try dsimp only at hSw); go_simp; try with_reducible rfl)
                        try simp only [Act.put]
                        refine wpAnyH_take (i := 4) (v := ?vrq4) rfl (by kernel_rfl) (by kernel_rfl) (by kernel_rfl) (fun _ _ _ h => h) (Or.inl ⟨by rfl, ?hyrq4⟩) (by assumption) ?_
                        case hyrq4 => (intro w hSw; (try dsimp only at hSw); go_simp; try with_reducible rfl)
                        try simp only [Act.put]
                        refine wpAnyH_take (i := 5) (v := ?vrq5) rfl (by kernel_rfl) (by kernel_rfl) (by kernel_rfl) (fun _ _ _ h => h) (Or.inl ⟨by rfl, ?hyrq5⟩) (by assumption) ?_
                        case hyrq5 => (intro w hSw; (try dsimp only at hSw); go_simp; try with_reducible rfl)
                        try simp only [Act.put]
                        refine wpAnyH_take (i := 6) (v := ?vrq6) rfl (by kernel_rfl) (by kernel_rfl) (by kernel_rfl) (fun _ _ _ h => h) (Or.inl ⟨by rfl, ?hyrq6⟩) (by assumption) ?_
                        case hyrq6 => (intro w hSw; (try dsimp only at hSw); go_simp; try with_reducible rfl)
                        try simp only [Act.put]
                        refine wpAnyH_take (i := 7) (v := ?vrq7) rfl (by kernel_rfl) (by kernel_rfl) (by kernel_rfl) (fun _ _ _ h => h) (Or.inl ⟨by rfl, ?hyrq7⟩) (by assumption) ?_
                        case hyrq7 => (intro w hSw; (try dsimp only at hSw); go_simp; try with_reducible rfl)
                        try simp only [Act.put]
                        refine wpAnyH_take (i := 8) (v := ?vrq8) rfl (by kernel_rfl) (by kernel_rfl) (by kernel_rfl) (fun _ _ _ h => h) (Or.inl ⟨by rfl, ?hyrq8⟩) (by assumption) ?_
                        case hyrq8 => (intro w hSw; (try dsimp only at hSw); go_simp; try with_reducible rfl)
                        try simp only [Act.put]
                        refine wpAnyH_take (i := 9) (v := ?vrq9) rfl (by kernel_rfl) (by kernel_rfl) (by kernel_rfl) (fun _ _ _ h => h) (Or.inl ⟨by rfl, ?hyrq9⟩) (by assumption) ?_
                        case hyrq9 => (intro w hSw; (try dsimp only at hSw); go_simp; try with_reducible rfl)
                        try simp only [Act.put]
                        refine wpAnyH_take (i := 10) (v := ?vrq10) rfl (by kernel_rfl) (by kernel_rfl) (by kernel_rfl) (fun _ _ _ h => h) (Or.inl ⟨by rfl, ?hyrq10⟩) (by assumption) ?_
                        case hyrq10 => (intro w hSw; (try dsimp only at hSw); go_simp; try with_reducible rfl)
                        try simp only [Act.put]
                        refine boxes_run (k := 2) (al := fun i => 11 + i) (st := fun i => 13 + i) (ty := fun _ => 23) (d := fun i => 18 + i) (x := (fun i : Nat => if i = 0 then Operand.tmp 154 else Operand.tmp 161)) (V := fun i => Value.agg ((fun i : Nat => if i = 0 then shC (S5) T2 iR else shC S5 T2 k0) i)) (zc := fun _ => shz) (vc := (fun i : Nat => if i = 0 then shC (S5) T2 iR else shC S5 T2 k0)) ⟨by kernel_rfl, fun i hi => ?har, fun i hi => ?hbr, by kernel_rfl, fun i hi => ?hur, fun i j hi hj hij => ⟨fun e => hij (Nat.add_left_cancel e), fun e => hij (Nat.add_left_cancel e), fun e => hij (Nat.add_left_cancel e)⟩, fun i j hi hj => (by show 11 + i ≠ 13 + j; omega), fun i hi => ?hdr, fun i hi a' h => ?hvr, fun i hi w => alloc_sh w, fun i hi w g h => ?hsr⟩ (Nat.le_of_ble_eq_true (by kernel_rfl)) rfl ?hSr ?her
                        case har =>
                          match i, hi with
                          | 0, _ => exact ⟨_, rfl, rfl, rfl⟩
                          | 1, _ => exact ⟨_, rfl, rfl, rfl⟩
                        case hbr =>
                          match i, hi with
                          | 0, _ => exact ⟨_, rfl, rfl, rfl, by kernel_rfl⟩
                          | 1, _ => exact ⟨_, rfl, rfl, rfl, by kernel_rfl⟩
                        case hur =>
                          match i, hi with
                          | 0, _ => exact ⟨rfl, rfl⟩
                          | 1, _ => exact ⟨rfl, rfl⟩
                        case hdr =>
                          match i, hi with
                          | 0, _ => simp
                          | 1, _ => simp
                        case hvr =>
                          match i, hi with
                          | 0, _ => (show a'.tmps.getD 154 undef = _; rw [Array.getD_eq_getD_getElem?, h 154 (fun j hj => (by show 154 ≠ 18 + j; omega))]; simp [shC])
                          | 1, _ => (show a'.tmps.getD 161 undef = _; rw [Array.getD_eq_getD_getElem?, h 161 (fun j hj => (by show 161 ≠ 18 + j; omega))]; simp [shC])
                        case hsr =>
                          match i, hi with
                          | 0, _ => exact store_sh w g S5 T2 iR h
                          | 1, _ => exact store_sh w g S5 T2 k0 h
                        case hSr => exact fun w' hw => hSb.out w' ⟨hw.os, hw.tape, hw.output, hw.size, hw.block⟩
                        intro g w' hblk hne hbel
                        have h0 : Blk w' (g 0) 23 (shC S5 T2 iR) := (hblk 0 (by omega)).2
                        have h1 : Blk w' (g 1) 23 (shC S5 T2 k0) := (hblk 1 (by omega)).2
                        have hbel' : Below w9.heap.size w9 w' := ⟨hbel.os, hbel.tape, hbel.output, hbel.size, hbel.block⟩
                        simp only [boxed, Act.put, List.setIfInBounds_toArray, Nat.reduceAdd]
                        go_wp2_with fail
                        go_meet
                        exact ⟨g 0, g 1, rfl, rfl, h0, h1, hbel'⟩
                      case rest =>
                        obtain ⟨g1, g2, rfl, rfl, f1, f2, hb9⟩ := hcut
                        have bxc := bx.below hb9 bx.lt
                        have hbc := hb0.trans (hb9.mono hb0.size)
                        have x0 : wc.cell? ⟨g, 0, none⟩ = some (.int .i64 (N iR 0)) := bxc.cell 0
                        have t3 : wc.cell? ⟨g1, 3, none⟩ = some (.int .i64 (S5 iR 3)) := f1.cell 3
                        have t4 : wc.cell? ⟨g1, 4, none⟩ = some (.int .i64 (S5 iR 4)) := f1.cell 4
                        have t5 : wc.cell? ⟨g1, 5, none⟩ = some (.int .i64 (S5 iR 5)) := f1.cell 5
                        have t6 : wc.cell? ⟨g1, 6, none⟩ = some (.int .i64 (S5 iR 6)) := f1.cell 6
                        have v3 : wc.cell? ⟨g2, 3, none⟩ = some (.int .i64 (S5 k0 3)) := f2.cell 3
                        have v4 : wc.cell? ⟨g2, 4, none⟩ = some (.int .i64 (S5 k0 4)) := f2.cell 4
                        have v5 : wc.cell? ⟨g2, 5, none⟩ = some (.int .i64 (S5 k0 5)) := f2.cell 5
                        have v6 : wc.cell? ⟨g2, 6, none⟩ = some (.int .i64 (S5 k0 6)) := f2.cell 6
                        have hcoc := hide (hco.out wc hbc)
                        obtain ⟨⟨_, ⟨a0, a1⟩, ⟨a2, a3⟩, ⟨a4, a5⟩, a6, a7⟩, ⟨_, ⟨b0, b1⟩, ⟨b2, b3⟩, ⟨b4, b5⟩, b6, b7⟩⟩ := HP5.out
                        clear f1 f2 bxc bx hb0 hb9 hco hrS hrY
                        go_upto_region 31 with fail
                        go_cut [221] (fun v wc' => v = .bool false ∧ wc' = wc)
                        case first =>
                          cases hs : sel iR with
                          | false =>
                            rw [hs] at hcoc
                            clear hs Hsd
                            as_aux_lemma =>
                              go_wp2_with (go_at_call 17; refine hcoc.out.mono ?_; rintro e w4 ⟨rfl, rfl⟩)
                              go_meet
                              exact ⟨rfl, rfl⟩
                          | true =>
                            rw [hs] at hcoc
                            obtain ⟨hA, hB⟩ := Hsd.out
                            have hA := hA hs
                            have hcase : side = 0 ∨ side = 1 ∨ side = 2 ∨ side = 3 ∨ side = 4 ∨ side = 5 := by omega
                            have HA := hide hA
                            have HB := hide hB
                            clear hs Hsd hA hB
                            rcases hcase with hc | hc | hc | hc | hc | hc
                            · have e0 : (side == 0) = true := by simp [hc]
                              have e2 : (side == 2) = false := by simp [hc]
                              have e3 : (side == 3) = false := by simp [hc]
                              have e5 : (side == 5) = false := by simp [hc]
                              have hf : (S5 iR 3 != S5 k0 3) = false := by rw [HA.out.1 hc, HB.out.1 hc]; simp
                              clear hc HA HB
                              as_aux_lemma =>
                                go_wp2_with (go_at_call 17; refine hcoc.out.mono ?_; rintro e w4 ⟨rfl, rfl⟩)
                                go_meet
                                exact ⟨rfl, rfl⟩
                            · have e0 : (side == 0) = false := by simp [hc]
                              have e2 : (side == 2) = false := by simp [hc]
                              have e3 : (side == 3) = false := by simp [hc]
                              have e5 : (side == 5) = false := by simp [hc]
                              clear hc HA HB
                              as_aux_lemma =>
                                go_wp2_with (go_at_call 17; refine hcoc.out.mono ?_; rintro e w4 ⟨rfl, rfl⟩)
                                go_meet
                                exact ⟨rfl, rfl⟩
                            · have e0 : (side == 0) = false := by simp [hc]
                              have e2 : (side == 2) = true := by simp [hc]
                              have e3 : (side == 3) = false := by simp [hc]
                              have e5 : (side == 5) = false := by simp [hc]
                              have hf : (S5 iR 3 + S5 iR 5 != S5 k0 3 + S5 k0 5) = false := by rw [HA.out.2.1 hc, HB.out.2.1 hc]; simp
                              clear hc HA HB
                              as_aux_lemma =>
                                go_wp2_with (go_at_call 17; refine hcoc.out.mono ?_; rintro e w4 ⟨rfl, rfl⟩)
                                go_meet
                                exact ⟨rfl, rfl⟩
                            · have e0 : (side == 0) = false := by simp [hc]
                              have e2 : (side == 2) = false := by simp [hc]
                              have e3 : (side == 3) = true := by simp [hc]
                              have e5 : (side == 5) = false := by simp [hc]
                              have hf : (S5 iR 4 != S5 k0 4) = false := by rw [HA.out.2.2.1 hc, HB.out.2.2.1 hc]; simp
                              clear hc HA HB
                              as_aux_lemma =>
                                go_wp2_with (go_at_call 17; refine hcoc.out.mono ?_; rintro e w4 ⟨rfl, rfl⟩)
                                go_meet
                                exact ⟨rfl, rfl⟩
                            · have e0 : (side == 0) = false := by simp [hc]
                              have e2 : (side == 2) = false := by simp [hc]
                              have e3 : (side == 3) = false := by simp [hc]
                              have e5 : (side == 5) = false := by simp [hc]
                              clear hc HA HB
                              as_aux_lemma =>
                                go_wp2_with (go_at_call 17; refine hcoc.out.mono ?_; rintro e w4 ⟨rfl, rfl⟩)
                                go_meet
                                exact ⟨rfl, rfl⟩
                            · have e0 : (side == 0) = false := by simp [hc]
                              have e2 : (side == 2) = false := by simp [hc]
                              have e3 : (side == 3) = false := by simp [hc]
                              have e5 : (side == 5) = true := by simp [hc]
                              have hf : (S5 iR 4 + S5 iR 6 != S5 k0 4 + S5 k0 6) = false := by rw [HA.out.2.2.2 hc, HB.out.2.2.2 hc]; simp
                              clear hc HA HB
                              as_aux_lemma =>
                                go_wp2_with (go_at_call 17; refine hcoc.out.mono ?_; rintro e w4 ⟨rfl, rfl⟩)
                                go_meet
                                exact ⟨rfl, rfl⟩
                        case rest =>
                          obtain ⟨rfl, rfl⟩ := hcut
                          go_wp2_with fail
                          go_roundw
                          case rel => exact ⟨iR + 1, by omega, by go_num, hbc⟩
                          case measure => simp [intOf]; omega
                · have him : m = iR := by omega
                  subst him
                  go_wp2_with fail
                  go_ret
                  exact ⟨rfl, hbl6.trans (hbl.mono hbl6.size)⟩

theorem walked : WalkedL Tryd.checked.prog 7 Tryd.f7 [("chancery/shape.quarter", Rows.laid_chancery_shape_quarter)] := by
  intro H enc W args ds ps hval hA hL
  have ht : TabQ W := tabQ_of ⟨_, _, rfl, rfl⟩ (by kernel_rfl) hL
  rw [Tryd.params7] at hA hval
  obtain ⟨v0, l0, d0, m0, p0, q0, e0, _, h0, k0⟩ := Frm.trodAll_cons hA
  obtain ⟨v1, l1, d1, m1, p1, q1, rfl, _, h1, k1⟩ := Frm.trodAll_cons k0
  obtain ⟨v2, l2, d2, m2, p2, q2, rfl, _, h2, k2⟩ := Frm.trodAll_cons k1
  obtain rfl := Frm.trodAll_nil k2
  obtain rfl : args = #[v0, v1, v2] := by cases args; simp_all
  obtain ⟨A, n, c, G, T, rfl, hn, hr, hwf⟩ := shapes_arg (hval 0 _ _ rfl rfl) h0
  obtain ⟨x, rfl, _, _, wx⟩ := open_int Tryd.underlying3 (hval 2 _ _ rfl rfl) h2
  obtain ⟨Ai, ci, zs, rfl, hz, hzl, hzw⟩ := ints_arg Tryd.underlying32 Tryd.underlying3 (by kernel_rfl) (hval 1 _ _ rfl rfl) h1
  exact walk A n c G T Ai ci zs x W ht hr hn hwf hz hzl hzw wx

def laidL : List (String × DataW Unit) := [("chancery/shape.quarter", Rows.laid_chancery_shape_quarter)]
theorem door_met (os : Os) (args : Array Value) : laidMetH Tryd.prog laidL ((World.doorLaid Tryd.prog 400 os).forCall (fun _ _ => 0) ⟨#[], args, []⟩).memory :=
  laidMetH_of_parts3 (fuel := 8) (laidMet_of_run' 8 (by kernel_rfl) (by kernel_rfl)) (by kernel_rfl) (by kernel_rfl)

set_option maxRecDepth 100000 in
theorem lifted (os : Os) (started : os.Started) (H : Type) (enc : TypeId × Value → H) :
    ReturnsInHanded {} Tryd.checked os 7 .any (fun w args => (Rows.shapeAlignedTwiceSpec.pre enc Tryd.prog Tryd.f7 [] false w args ∧ laidMetH Tryd.prog laidL w) ∧ sizedMet enc Tryd.prog Tryd.f7 (OpenSpec.ofChange Rows.shapeAlignedTwiceSpec) false w args) (Rows.shapeAlignedTwiceSpec.post enc Tryd.prog Tryd.f7 false true false false) :=
  law_lift_laid (C := Tryd.checked) (tb := 4) (laid := laidL) (by kernel_rfl) started (by kernel_rfl) Tryd.func7 rfl
    (fun ds h => match ds, h with | [_, _, _], _ => rfl) rfl Tryd.underlying4 (by kernel_rfl) (by kernel_rfl)
    (ChangeSpec.witness_shaped (enc := enc) (C := Tryd.checked) (os := os) (X := fun w _ => laidMetH Tryd.prog laidL w) false (World.doorLaid Tryd.prog 400 os) #[.slice none 0 0, .slice none 0 0, .int .i64 0] 8 rfl (World.shaped_of_RefB (by kernel_rfl) (by kernel_rfl)) (by kernel_rfl) (by kernel_rfl) (by kernel_rfl) (door_met os _))
    walked

theorem said : Rows.ShapeAlignedTwiceSaid :=
  OpenClaim.holds_of_wide 7 Tryd.f7 rfl rfl rfl rfl rfl rfl rfl ⟨rfl, rfl, rfl, rfl, rfl⟩ rfl rfl rfl rfl rfl (by kernel_rfl) Tryd.func7 (by kernel_rfl)
    (of_decide_eq_true (by kernel_rfl)) (by unfold Func.isWrapper; first | (rw [if_pos (by decide +kernel)]; kernel_rfl) | (rw [if_neg (by decide +kernel)]; exact ⟨rfl, rfl⟩))
    (fun os started H enc _ => lifted os started H enc)

/-- THE STATEMENT: the tied card -/
theorem proved : Rows.ShapeAlignedTwiceCardSaid :=
  Claim7.holds_tied_plain_at .later [] [.data] true (true, "0033d5c4f99aef9b82c08da9c1357e50926af6b85babfc5968ccf75c8792d8fc") false
    said (fun _ h => by cases h) (by kernel_rfl) (fun _ h => by cases h) shapeAlignedTwice_row_tie rfl ⟨rfl, rfl⟩ (by kernel_rfl) rfl
    (fun f fn hf hfn => by
      obtain rfl : f = 7 := Option.some.inj ((show Tryd.prog.funcNamed "chancery/chancerykeep3.ShapeAlignedTwice" = some 7 by kernel_rfl).symm.trans hf) |>.symm
      obtain rfl : fn = Tryd.f7 := (Option.some.inj (Tryd.func7.symm.trans hfn)).symm
      exact ⟨by kernel_rfl, fun j t ht => by
        have hm : t ∈ Tryd.f7.params.toList := by simpa using Array.mem_of_getElem? ht
        have hall : (Tryd.f7.params.toList.all fun u => !Tryd.prog.wantsStandIn u) = true := by kernel_rfl
        exact (show Tryd.prog.wantsStandIn t = false by simpa using List.all_eq_true.1 hall t hm)⟩)
    (by kernel_rfl)
#print axioms proved
end Go.Proofs.YtnmikhmbnpiadaaDoor.ShapeAlignedTwiceDone
