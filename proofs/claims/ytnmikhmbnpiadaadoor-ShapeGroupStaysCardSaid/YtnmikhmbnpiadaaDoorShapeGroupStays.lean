/- Grouping leaves the corners of all shapes where they are, and ungrouping leads back to the same places. No condition. -/
import Derived.Test.YtnmikhmbnpiadaaDoorShapeGroup
import Derived.Test.YtnmikhmbnpiadaaDoorPointEqual
import Derived.Test.YtnmikhmbnpiadaaDoorShapeBasics
import Derived.Test.YtnmikhmbnpiadaaDoorShapeTab
import Derived.Test.YtnmikhmbnpiadaaDoorShapeArgs
import Derived.Test.YtnmikhmbnpiadaaDoorShapePt
import Derived.Test.YtnmikhmbnpiadaaDoorTie
namespace Go.Proofs.YtnmikhmbnpiadaaDoor.ShapeGroupStaysDone
open Go.ChangeShapes Go.WideShapes Go.ChangeAt Go.RowKit Go.Frm Wi Shp

theorem made_sml (G : Nat → Nat → Int) (t : Bool) {m : Nat} (hm : m ≤ 10) : Sml (shG G t) m where
  ok := made_ok G t hm
  few := hm
  item k _ := rfl
  xy k _ := ⟨wi_bd (G k 3) (by omega), wi_bd (G k 4) (by omega)⟩
  wh k _ := ⟨wi_bd (G k 5) (by omega), wi_bd (G k 6) (by omega)⟩
theorem few_items {ys : List Int} {m : Nat} (hnd : ys.Nodup) (h : ∀ y ∈ ys, 1 ≤ y ∧ y ≤ (m : Int)) : ys.length ≤ m := by
  have hs : ys ⊆ (List.range m).map (fun i : Nat => (i : Int) + 1) := fun y hy => by
    obtain ⟨h1, h2⟩ := h y hy
    exact List.mem_map.2 ⟨(y - 1).toNat, List.mem_range.2 (by omega), by omega⟩
  have := hnd.length_le_of_subset hs
  simpa using this
theorem int_infoG : (Tryd.prog.info? 3).map (fun i => (i.zero, i.size, i.bytes)) = some (some (.int .i64 0), 1, 8) := by kernel_rfl

set_option maxRecDepth 100000 in
set_option maxHeartbeats 8000000 in
theorem walk (A : Option Addr) (n c : Nat) (G : Nat → Nat → Int) (T : Nat → Nat → ByteArray) (Ai : Option Addr) (ci : Nat) (zs : List Int) (w : World) (hq : TabQ w) (hr : RdF w A n 12 (shV G T)) (hn : n ≤ 9223372036854775807) (hwf : ∀ i j, i < n → j < 10 → (Lit.int .i64 (G i j)).wf = true)
    (hz : RdI w Ai zs) (hzl : zs.length ≤ 9223372036854775807) (hzw : ∀ j, j < zs.length → (Lit.int .i64 (ix zs j)).wf = true) :
    Calls Tryd.prog 8 #[.slice A n c, .slice Ai zs.length ci] w fun e w' => e = .returned (.bool true) ∧ Below w.heap.size w w' := by
  have Hq := hide hq
  have Hsh := hide (fun wx (hx : RdF wx A n 12 (shV G T)) => shapes_ok A n c G T true wx hx hn hwf)
  have Hzw := hide hzw
  clear hq hwf hzw
  go_enter Tryd.func8, Tryd.ntmps8
  go_wp2_with fail
  refine (keptTurned_ok w Hq.out).mono ?_
  rintro e w1 ⟨rfl, hb1⟩
  have hr1 := hr.below hb1
  go_wp2_with fail
  refine (Hsh.out w1 hr1).mono ?_
  rintro e w2 ⟨A2, c2, rfl, hown, hb2⟩
  have hbl2 := hb1.trans (hb2.mono hb1.size)
  have hm10 : min n 10 ≤ 10 := Nat.min_le_right _ _
  have hsm := made_sml G true hm10
  generalize min n 10 = m at *
  have hcap := own_cap hown
  have hr2 := RdF.of_own hown
  have hz2 := hz.below hbl2
  have hq2 := Hq.out.below hbl2
  clear Hsh hr hr1 hb1 hb2 hn hown hz
  generalize shG G true = G2 at *
  generalize shT T = T2 at *
  have Hsm := hide hsm
  clear hsm
  go_wp2_with fail
  go_loopw [5, 27] (fun a b wr => ∃ (i : Nat) (ys : List Int) (A5 : Option Addr) (c5 : Nat), i ≤ zs.length ∧ b = .int .i64 i ∧ a = .slice A5 ys.length c5 ∧ ys.Nodup ∧ (∀ y ∈ ys, 1 ≤ y ∧ y ≤ ((10 : Nat) : Int)) ∧ wr.ownsRow w2.heap.size 3 1 (.slice A5 ys.length c5) ys.length (ys.map (Value.int .i64)) ∧ Below w2.heap.size w2 wr) (fun _ b _ => zs.length - (intOf b).toNat)
  case atStart => exact ⟨0, [], none, 0, by omega, rfl, rfl, List.nodup_nil, by simp, World.ownsRow_nil _ _ _ _, Below.refl _ _⟩
  case round =>
    obtain ⟨i, ys, A5, c5, hi, rfl, rfl, hnd, hys, hown, hb⟩ := hrel
    have hyl := few_items hnd hys
    by_cases hlt : i < zs.length
    · obtain ⟨b, off, rfl, kz⟩ := (hz2.below hb).at_ hlt
      have hw := hide (fun wx => within_any (ix zs i) 1 10 wx (Hzw.out i hlt) (by omega) (by omega) (by omega))
      have hwb := wi_bd (ix zs i) (show (1 : Int) ≤ 10 by omega)
      generalize wi (ix zs i) 1 10 = y at *
      have hc := contains_rd A5 c5 ys y wr (RdI.of_own hown) (by omega)
      have i1 : (i : Int) < (zs.length : Int) := by omega
      cases hcy : ys.contains y with
      | true =>
        rw [hcy] at hc
        have Hc := hide hc
        have Ho := hide (And.intro hnd (And.intro hys (And.intro hown hb)))
        clear hc hcy hnd hys hown hb
        go_wp2_with (first
          | (go_at_call 11; (with_reducible refine (hw.out _).mono ?_); rintro e w4 ⟨rfl, rfl⟩)
          | (go_at_call 17; refine Hc.out.mono ?_; rintro e w5 ⟨rfl, rfl⟩))
        exact ⟨⟨i + 1, ys, A5, c5, by omega, by simp, rfl, Ho.out.1, Ho.out.2.1, Ho.out.2.2.1, Ho.out.2.2.2⟩, by simp only [intOf]; omega⟩
      | false =>
        rw [hcy] at hc
        have Hc := hide hc
        have hnd2 : (ys ++ [y]).Nodup := by
          rw [List.nodup_append]
          refine ⟨hnd, by simp, fun a ha b hb2 => ?_⟩
          simp at hb2
          subst hb2
          intro hh
          subst hh
          rw [List.contains_iff_mem.2 ha] at hcy
          cases hcy
        have hys2 : ∀ x ∈ ys ++ [y], 1 ≤ x ∧ x ≤ ((10 : Nat) : Int) := fun x hx => by
          rcases List.mem_append.1 hx with hx | hx
          · exact hys x hx
          · simp at hx; subst hx; omega
        have Ho := hide (And.intro hnd2 hys2)
        have hbs := hb.size
        clear hc hcy hnd hys hnd2 hys2
        go_wp2_with (first
          | (go_at_call 11; (with_reducible refine (hw.out _).mono ?_); rintro e w4 ⟨rfl, rfl⟩)
          | (go_at_call 17; refine Hc.out.mono ?_; rintro e w5 ⟨rfl, rfl⟩)
          | (at_builtin; refine wpL_append rfl rfl Tryd.underlying32 int_infoG rfl (by decide) rfl rfl (hown.alloc _) (news_at _ _ _ _ (by simp)) rfl (by simp [Value.oneCell']) (by omega) (by omega) (by simp; omega) ?_; intro v5 w6 hown5 hgrow5))
        obtain ⟨A6, c6, rfl⟩ := own_form hown5
        refine ⟨⟨i + 1, ys ++ [y], A6, c6, by omega, by simp, by simp, Ho.out.1, Ho.out.2, ?_, below_app (hb.alloc hbs _) (by simp; omega) (hown.alloc _) hgrow5⟩, by simp only [intOf]; omega⟩
        rw [List.length_append, List.map_append]
        exact hown5
    · obtain rfl : i = zs.length := by omega
      have hr3 := hr2.below hb
      have hri3 := RdI.of_own hown
      have hq3 := hq2.below hb
      have hbl3 := hbl2.trans (hb.mono hbl2.size)
      have hgr := hide (Group_ok A2 A5 m c2 c5 G2 T2 ys wr hq3 Hsm.out hr3 hcap.1 hri3 (own_cap hown).1 (by omega) hnd)
      clear hown hb hr2 hq2 hbl2 hz2 hnd hys hri3
      go_wp2_with fail
      refine hgr.out.mono ?_
      rintro e w4 ⟨hb4, hcase⟩
      have hbl4 := hbl3.trans (hb4.mono hbl3.size)
      have hr4 := hr3.below hb4
      have hq4 := hq3.below hb4
      clear hgr hb4 hr3 hq3 hbl3
      rcases hcase with rfl | rfl | ⟨sel, a, X, Y, W, Z, A', c', hgp, hfo, rfl, hrow⟩
      · go_wp2_with fail
        go_ret
        exact ⟨rfl, hbl4⟩
      · go_wp2_with fail
        go_ret
        exact ⟨rfl, hbl4⟩
      · obtain ⟨g, hg, eg⟩ := gp_none hgp
        have hgok := gp_ok hgp hfo
        have hbok := back_ok hgp hfo hg eg
        have hrg := RdF.of_own hrow
        have hcg := own_cap hrow
        have He0 := hide (fun k (hk : k < m) => corners_emb Hsm.out (emb_self Hsm.out) hk)
        have He1 := hide (fun k (hk : k < m) => corners_emb Hsm.out (gp_emb hgp hfo) hk)
        have He2 := hide (fun k (hk : k < m) => corners_emb Hsm.out (back_emb hgp hfo hg eg) hk)
        have g0 : gpG G2 m sel a X Y W Z g 0 = 77 := gpG_none eg 0
        have g2 : gpG G2 m sel a X Y W Z g 2 = 5 := gpG_none eg 2
        have hug := ungroup_ok A' (m + 1) c' g (gpG G2 m sel a X Y W Z) (gpT G2 m sel a T2) w4 hq4 hgok hrg hcg.1 hg g2 hbok
        rw [g0] at hug
        have Hug := hide hug
        have Hgok := hide hgok
        have Hbok := hide hbok
        clear hug hgok hbok g0 g2 hrow eg hfo hgp
        go_wp2_with fail
        refine Hug.out.mono ?_
        rintro e w5 ⟨A6, c6, rfl, hrow6, hb5⟩
        rw [Nat.add_sub_cancel] at hrow6 ⊢
        have hcb := own_cap hrow6
        have hrb := RdF.of_own hrow6
        have hbl5 := hbl4.trans (hb5.mono hbl4.size)
        have hr5 := hr4.below hb5
        have hrg5 := hrg.below hb5
        have hq5 := hq4.below hb5
        clear Hug hrow6 hb5 hr4 hrg hq4 hbl4
        generalize gpG G2 m sel a X Y W Z = G3 at *
        generalize gpT G2 m sel a T2 = T3 at *
        generalize ugG G3 g = G4 at *
        generalize ugT T3 g = T4 at *
        have hm1 : IntKind.i64.wrap ((m : Int) + 1) = (m : Int) + 1 := IntWalk.i64_in _ (by omega)
        go_wp2_with fail
        go_loopw [84] (fun a wr => ∃ k : Nat, k ≤ m ∧ a = .int .i64 k ∧ Below w5.heap.size w5 wr) (fun a _ => m - (intOf a).toNat)
        case atStart => exact ⟨0, by omega, rfl, Below.refl _ _⟩
        case round =>
          obtain ⟨k, hk, rfl, hb6⟩ := hrel
          by_cases hkm : k < m
          · obtain ⟨bA, oA, rfl, k0, k1, k2, k3, k4, k5, k6, k7, k8, k9, k10, k11⟩ := cells12 (hr5.below hb6) hkm
            obtain ⟨i0, hi0, it0, cr0⟩ := He0.out k hkm
            obtain ⟨i1, hi1, it1, cr1⟩ := He1.out k hkm
            obtain ⟨i2, hi2, it2, cr2⟩ := He2.out k hkm
            have hitem := Hsm.out.item k hkm
            rw [hitem] at k0
            have Hc0 := hide (fun wx (hb : Below w5.heap.size w5 wx) => Corners_ok _ m c2 i0 G2 T2 _ _ ((k : Int) + 1) wx (hq5.below hb) Hsm.out.ok (hr5.below hb) hcap.1 hi0 it0 cr0)
            have Hc1 := hide (fun wx (hb : Below w5.heap.size w5 wx) => Corners_ok _ (m + 1) c' i1 G3 T3 _ _ ((k : Int) + 1) wx (hq5.below hb) Hgok.out (hrg5.below hb) hcg.1 hi1 it1 cr1)
            have Hc2 := hide (fun wx (hb : Below w5.heap.size w5 wx) => Corners_ok _ m c6 i2 G4 T4 _ _ ((k : Int) + 1) wx (hq5.below hb) Hbok.out ((hrb.below hb)) hcb.1 hi2 it2 cr2)
            generalize cnX G2 k = px at *
            generalize cnY G2 k = py at *
            clear it0 it1 it2 cr0 cr1 cr2 hi0 hi1 hi2
            have Hit := hide hitem
            clear hitem
            go_upto_region 21 with fail
            have hbp := hb6.alloc hb6.size (.cells #[.int .i64 ((k : Int) + 1), .int .i64 (G2 k 1), .int .i64 (G2 k 2), .int .i64 (G2 k 3), .int .i64 (G2 k 4), .int .i64 (G2 k 5), .int .i64 (G2 k 6), .int .i64 (G2 k 7), .int .i64 (G2 k 8), .int .i64 (G2 k 9), .string (T2 k 10), .string (T2 k 11)] 23)
            have bp := Blk.new wr 23 #[.int .i64 ((k : Int) + 1), .int .i64 (G2 k 1), .int .i64 (G2 k 2), .int .i64 (G2 k 3), .int .i64 (G2 k 4), .int .i64 (G2 k 5), .int .i64 (G2 k 6), .int .i64 (G2 k 7), .int .i64 (G2 k 8), .int .i64 (G2 k 9), .string (T2 k 10), .string (T2 k 11)]
            clear k0 k1 k2 k3 k4 k5 k6 k7 k8 k9 k10 k11 hb6
            generalize wr.alloc (.cells #[.int .i64 ((k : Int) + 1), .int .i64 (G2 k 1), .int .i64 (G2 k 2), .int .i64 (G2 k 3), .int .i64 (G2 k 4), .int .i64 (G2 k 5), .int .i64 (G2 k 6), .int .i64 (G2 k 7), .int .i64 (G2 k 8), .int .i64 (G2 k 9), .string (T2 k 10), .string (T2 k 11)] 23) = wp at *
            generalize wr.heap.size = Xb at *
            have p0 : wp.cell? ⟨Xb, 0, none⟩ = some (.int .i64 ((k : Int) + 1)) := bp.cell 0
            have hX := bp.lt
            clear bp
            go_upto_region 22 with (go_at_call 12; refine (Hc0.out wp hbp).mono ?_; rintro e wq1 ⟨b1, rfl, hg1, hp1, hbq1⟩)
            have hbp1 := hbp.trans (hbq1.mono hbp.size)
            have p1 : wq1.cell? ⟨Xb, 0, none⟩ = some (.int .i64 ((k : Int) + 1)) := (hbq1.cell (p := ⟨Xb, 0, none⟩) hX).trans p0
            have hX1 : Xb < wq1.heap.size := Nat.lt_of_lt_of_le hX hbq1.size
            have hr1a := pts_rdF hp1
            clear p0 hbq1 hp1 Hc0
            go_upto_region 23 with (go_at_call 12; refine (Hc1.out wq1 hbp1).mono ?_; rintro e wq2 ⟨b2, rfl, hg2, hp2, hbq2⟩)
            have hbp2 := hbp1.trans (hbq2.mono hbp1.size)
            have p2 : wq2.cell? ⟨Xb, 0, none⟩ = some (.int .i64 ((k : Int) + 1)) := (hbq2.cell (p := ⟨Xb, 0, none⟩) hX1).trans p1
            have hr1b := hr1a.below hbq2
            have hr2a := pts_rdF hp2
            clear p1 hbq2 hp2 Hc1 hr1a
            go_upto_region 24 with (go_at_call 12; refine (Hc2.out wq2 hbp2).mono ?_; rintro e wq3 ⟨b3, rfl, hg3, hp3, hbq3⟩)
            have hbp3 := hbp2.trans (hbq3.mono hbp2.size)
            have hr1c := hr1b.below hbq3
            have hr2c := hr2a.below hbq3
            have hr3c := pts_rdF hp3
            clear p2 hbq3 hp3 Hc2 hr1b hr2a
            have He1' := hide (points_ok _ _ 4 4 4 px py wq3 hr1c hr2c (by decide))
            have He2' := hide (fun d => points_ok _ _ 4 4 4 px py (wq3.drewN d) (hr1c.drewN d) (hr3c.drewN d) (by decide))
            have Hb3 := hide hbp3
            clear hr1c hr2c hr3c hbp3
            go_wp2_with fail
            refine He1'.out.mono ?_
            rintro e wq4 ⟨rfl, d1, rfl⟩
            go_wp2_with fail
            refine (He2'.out d1).mono ?_
            rintro e wq5 ⟨rfl, d2, rfl⟩
            go_wp2_with fail
            exact ⟨⟨k + 1, by omega, by simp, below_drewN Hb3.out (d1 + d2)⟩, by simp only [intOf]; omega⟩
          · obtain rfl : m = k := by omega
            go_wp2_with fail
            go_ret
            exact ⟨rfl, hbl5.trans (hb6.mono hbl5.size)⟩

theorem walked : WalkedL Tryd.checked.prog 8 Tryd.f8 [("chancery/shape.quarter", Rows.laid_chancery_shape_quarter)] := by
  intro H enc W args ds ps hval hA hL
  have ht : TabQ W := tabQ_of ⟨_, _, rfl, rfl⟩ (by kernel_rfl) hL
  rw [Tryd.params8] at hA hval
  obtain ⟨v0, l0, d0, m0, p0, q0, e0, _, h0, k0⟩ := Frm.trodAll_cons hA
  obtain ⟨v1, l1, d1, m1, p1, q1, rfl, _, h1, k1⟩ := Frm.trodAll_cons k0
  obtain rfl := Frm.trodAll_nil k1
  obtain rfl : args = #[v0, v1] := by cases args; simp_all
  obtain ⟨A, n, c, G, T, rfl, hn, hr, hwf⟩ := shapes_arg (hval 0 _ _ rfl rfl) h0
  obtain ⟨a0, l0', k0', rfl⟩ := okWide_slice Tryd.underlying32 (hval 1 _ _ rfl rfl)
  obtain ⟨fuel, h1⟩ := h1
  obtain ⟨Ai, ci, zs, hs, hz, hzl, hzw⟩ := ints_trod (v := .slice a0 l0' k0') Tryd.underlying32 Tryd.underlying3 (by kernel_rfl) h1
  rw [hs]
  exact walk A n c G T Ai ci zs W ht hr hn hwf hz hzl hzw

def laidL : List (String × DataW Unit) := [("chancery/shape.quarter", Rows.laid_chancery_shape_quarter)]
theorem door_met (os : Os) (args : Array Value) : laidMetH Tryd.prog laidL ((World.doorLaid Tryd.prog 400 os).forCall (fun _ _ => 0) ⟨#[], args, []⟩).memory :=
  laidMetH_of_parts3 (fuel := 8) (laidMet_of_run' 8 (by kernel_rfl) (by kernel_rfl)) (by kernel_rfl) (by kernel_rfl)

set_option maxRecDepth 100000 in
theorem lifted (os : Os) (started : os.Started) (H : Type) (enc : TypeId × Value → H) :
    ReturnsInHanded {} Tryd.checked os 8 .any (fun w args => (Rows.shapeGroupStaysSpec.pre enc Tryd.prog Tryd.f8 [] false w args ∧ laidMetH Tryd.prog laidL w) ∧ sizedMet enc Tryd.prog Tryd.f8 (OpenSpec.ofChange Rows.shapeGroupStaysSpec) false w args) (Rows.shapeGroupStaysSpec.post enc Tryd.prog Tryd.f8 false true false false) :=
  law_lift_laid (C := Tryd.checked) (tb := 4) (laid := laidL) (by kernel_rfl) started (by kernel_rfl) Tryd.func8 rfl
    (fun ds h => match ds, h with | [_, _], _ => rfl) rfl Tryd.underlying4 (by kernel_rfl) (by kernel_rfl)
    (ChangeSpec.witness_shaped (enc := enc) (C := Tryd.checked) (os := os) (X := fun w _ => laidMetH Tryd.prog laidL w) false (World.doorLaid Tryd.prog 400 os) #[.slice none 0 0, .slice none 0 0] 8 rfl (World.shaped_of_RefB (by kernel_rfl) (by kernel_rfl)) (by kernel_rfl) (by kernel_rfl) (by kernel_rfl) (door_met os _))
    walked

theorem said : Rows.ShapeGroupStaysSaid :=
  OpenClaim.holds_of_wide 8 Tryd.f8 rfl rfl rfl rfl rfl rfl rfl ⟨rfl, rfl, rfl, rfl, rfl⟩ rfl rfl rfl rfl rfl (by kernel_rfl) Tryd.func8 (by kernel_rfl)
    (of_decide_eq_true (by kernel_rfl)) (by unfold Func.isWrapper; first | (rw [if_pos (by decide +kernel)]; kernel_rfl) | (rw [if_neg (by decide +kernel)]; exact ⟨rfl, rfl⟩))
    (fun os started H enc _ => lifted os started H enc)

/-- THE STATEMENT: the tied card -/
theorem proved : Rows.ShapeGroupStaysCardSaid :=
  Claim7.holds_tied_plain_at .later [] [.data] true (true, "0033d5c4f99aef9b82c08da9c1357e50926af6b85babfc5968ccf75c8792d8fc") false
    said (fun _ h => by cases h) (by kernel_rfl) (fun _ h => by cases h) shapeGroupStays_row_tie rfl ⟨rfl, rfl⟩ (by kernel_rfl) rfl
    (fun f fn hf hfn => by
      obtain rfl : f = 8 := Option.some.inj ((show Tryd.prog.funcNamed "chancery/chancerykeep3.ShapeGroupStays" = some 8 by kernel_rfl).symm.trans hf) |>.symm
      obtain rfl : fn = Tryd.f8 := (Option.some.inj (Tryd.func8.symm.trans hfn)).symm
      exact ⟨by kernel_rfl, fun j t ht => by
        have hm : t ∈ Tryd.f8.params.toList := by simpa using Array.mem_of_getElem? ht
        have hall : (Tryd.f8.params.toList.all fun u => !Tryd.prog.wantsStandIn u) = true := by kernel_rfl
        exact (show Tryd.prog.wantsStandIn t = false by simpa using List.all_eq_true.1 hall t hm)⟩)
    (by kernel_rfl)
#print axioms proved
end Go.Proofs.YtnmikhmbnpiadaaDoor.ShapeGroupStaysDone
