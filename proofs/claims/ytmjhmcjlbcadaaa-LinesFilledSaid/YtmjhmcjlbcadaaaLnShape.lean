/- The contract of chancerykeep3.lineShape: a valid shape made of any. Printed by lnshapegen.py. -/
import Derived.Test.YtmjhmcjlbcadaaaLnCheck
import Derived.Test.YtmjhmcjlbcadaaaSink
import Derived.Test.YtmjhmcjlbcadaaaWithin
namespace Go.Proofs.Ytmjhmcjlbcadaaa.Ln
open Go.RowKit Go.Frm Wi

/-- the widths that are made of any -/
def mkW (Z : List Int) : List Int := if Z.length = 0 then [400] else (Z.take 5).map fun y => wi y 1 2000
theorem mkW_ok (Z : List Int) (d : Int) : VS (mkW Z) (wi d 0 5000) := by
  unfold mkW
  refine ⟨?_, ?_, ?_, wi_bd d (by omega)⟩
  · split
    · simp
    · rw [List.length_map, List.length_take]; omega
  · split
    · simp
    · rw [List.length_map, List.length_take]; omega
  · intro x hx
    split at hx
    · simp at hx; omega
    · obtain ⟨y, _, rfl⟩ := List.mem_map.1 hx
      have := wi_bd y (show (1 : Int) ≤ 2000 by omega)
      omega
def Shaped (ws : List Int) (D : Int) (w : World) (e : Ending) (w' : World) : Prop :=
  ∃ A c, e = .returned (.agg #[.slice A ws.length c, .int .i64 D]) ∧ w'.ownsRow w.heap.size 3 1 (.slice A ws.length c) ws.length (ws.map (Value.int .i64)) ∧ Below w.heap.size w w'
theorem int1_info : (Try.prog.info? 3).map (fun i => (i.zero, i.size, i.bytes)) = some (some (.int .i64 0), 1, 8) := by kernel_rfl
set_option maxRecDepth 100000 in
set_option maxHeartbeats 4000000 in
theorem lineShape_ok (A : Option Addr) (Z : List Int) (cz : Nat) (d : Int) (w : World) (hr : RdI w A Z) (hz : ∀ i, i < Z.length → (Lit.int .i64 (ix Z i)).wf = true) (hd : (Lit.int .i64 d).wf = true) (hZ : Z.length ≤ 9223372036854775807) :
    Calls Try.prog 8 #[.agg #[.slice A Z.length cz, .int .i64 d]] w (Shaped (mkW Z) (wi d 0 5000) w) := by
  obtain ⟨i0, hj0, hz0, hz1, hz2⟩ := info_parts int1_info
  have Hz := hide hz
  clear hz
  have vd := hide (fun wx => within_any d 0 5000 wx hd (by omega) (by omega) (by omega))
  clear hd
  go_enter Try.func8, Try.ntmps8
  go_wp2_with (go_at_call 11; refine (vd.out _).mono ?_; rintro e w1 ⟨rfl, rfl⟩)
  have bx0 := ((Blk.new w 25 #[.slice A Z.length cz, .int .i64 d]).alloc (.cells #[.slice none 0 0, .int .i64 0] 25)).alloc (.cells #[.slice none 0 0, .int .i64 (wi d 0 5000)] 25)
  have bn0 := (Blk.new (w.alloc (.cells #[.slice A Z.length cz, .int .i64 d] 25)) 25 #[.slice none 0 0, .int .i64 0]).alloc (.cells #[.slice none 0 0, .int .i64 (wi d 0 5000)] 25)
  have bo0 := Blk.new ((w.alloc (.cells #[.slice A Z.length cz, .int .i64 d] 25)).alloc (.cells #[.slice none 0 0, .int .i64 0] 25)) 25 #[.slice none 0 0, .int .i64 (wi d 0 5000)]
  have bel0 := (((Below.refl w.heap.size w).alloc (Nat.le_refl _) (.cells #[.slice A Z.length cz, .int .i64 d] 25)).alloc (by simp) (.cells #[.slice none 0 0, .int .i64 0] 25)).alloc (by simp; omega) (.cells #[.slice none 0 0, .int .i64 (wi d 0 5000)] 25)
  rw [show ((w.alloc (.cells #[.slice A Z.length cz, .int .i64 d] 25)).alloc (.cells #[.slice none 0 0, .int .i64 0] 25)).heap.size = w.heap.size + 1 + 1 by simp] at bo0
  rw [show (w.alloc (.cells #[.slice A Z.length cz, .int .i64 d] 25)).heap.size = w.heap.size + 1 by simp] at bn0
  generalize ((w.alloc (.cells #[.slice A Z.length cz, .int .i64 d] 25)).alloc (.cells #[.slice none 0 0, .int .i64 0] 25)).alloc (.cells #[.slice none 0 0, .int .i64 (wi d 0 5000)] 25) = wo at *
  obtain ⟨M, hM⟩ : ∃ M, M = w.heap.size := ⟨_, rfl⟩
  have Hw := hide hM
  rw [← hM] at bx0 bn0 bo0 bel0
  rw [← hM]
  clear hM
  generalize wi d 0 5000 = D at *
  go_loopw [4] (fun a wr => ∃ (i : Nat) (A5 : Option Addr) (c5 : Nat), i ≤ min Z.length 5 ∧ a = .int .i64 i ∧ Blk wr M 25 #[.slice A Z.length cz, .int .i64 d] ∧ Blk wr (M + 1) 25 #[.slice none 0 0, .int .i64 0] ∧ Blk wr (M + 1 + 1) 25 #[.slice A5 i c5, .int .i64 D] ∧ wr.ownsRow (M + 3) 3 1 (.slice A5 i c5) i (((Z.take i).map fun y => wi y 1 2000).map (Value.int .i64)) ∧ Below M w wr ∧ M + 3 ≤ wr.heap.size) (fun a _ => 5 - (intOf a).toNat)
  case atStart => exact ⟨0, none, 0, by omega, rfl, bx0, bn0, bo0, World.ownsRow_nil _ _ _ _, bel0, by have := bo0.lt; omega⟩
  case round =>
    obtain ⟨i, A5, c5, hi, rfl, hbx, hbn, hbo, hown, hbl, hsz⟩ := hrel
    clear bx0 bn0 bo0 bel0
    have m0 : wr.cell? ⟨M + 1 + 1, 0, none⟩ = some (.slice A5 i c5) := hbo.cell 0
    have m1 : wr.cell? ⟨M, 0, none⟩ = some (.slice A Z.length cz) := hbx.cell 0
    by_cases hlt : i < min Z.length 5
    · have hin : i < Z.length := by omega
      have hi5 : i < 5 := by omega
      obtain ⟨b, off, rfl, m2⟩ := (hr.below (by rw [← Hw.out]; exact hbl)).at_ hin
      have d1 : decide ((i : Int) < (Z.length : Int)) = true := by simp; omega
      have d2 : decide ((i : Int) < 5) = true := by simp; omega
      have v0 := hide (fun wx => within_any (ix Z i) 1 2000 wx (Hz.out i hin) (by omega) (by omega) (by omega))
      go_upto_region 5 with fail
      have hbw : b < M := by rw [Hw.out]; obtain ⟨b', off', hA, h0⟩ := hr.at_ hin; injection hA with hA; injection hA with hA hA'; subst hA hA'; exact World.block_lt_of_cell? _ _ h0
      have hfar : some b ≠ (Value.slice A5 i c5).ownBlock := own_not_low hown (show b < M + 3 by omega)
      have hfarM : some M ≠ (Value.slice A5 i c5).ownBlock := own_not_low hown (show M < M + 3 by omega)
      have hal : ∀ (wx : World) (o : Obj), wx.cell? ⟨M + 1 + 1, 0, none⟩ = some (.slice A5 i c5) ∧ wx.cell? ⟨M, 0, none⟩ = some (.slice (some ⟨b, off, none⟩) Z.length cz) ∧ wx.cell? ⟨b, off + i, none⟩ = some (.int .i64 (ix Z i)) → (wx.alloc o).cell? ⟨M + 1 + 1, 0, none⟩ = some (.slice A5 i c5) ∧ (wx.alloc o).cell? ⟨M, 0, none⟩ = some (.slice (some ⟨b, off, none⟩) Z.length cz) ∧ (wx.alloc o).cell? ⟨b, off + i, none⟩ = some (.int .i64 (ix Z i)) := fun wx o ⟨h1, h2, h3⟩ =>
        ⟨(World.cell?_alloc_lt _ _ _ (World.block_lt_of_cell? wx _ h1)).trans h1, (World.cell?_alloc_lt _ _ _ (World.block_lt_of_cell? wx _ h2)).trans h2, (World.cell?_alloc_lt _ _ _ (World.block_lt_of_cell? wx _ h3)).trans h3⟩
      have hgro : ∀ (wx wy : World), wx.grownBy wy (Value.slice A5 i c5).ownBlock → wx.cell? ⟨M + 1 + 1, 0, none⟩ = some (.slice A5 i c5) ∧ wx.cell? ⟨M, 0, none⟩ = some (.slice (some ⟨b, off, none⟩) Z.length cz) ∧ wx.cell? ⟨b, off + i, none⟩ = some (.int .i64 (ix Z i)) → wy.cell? ⟨M + 1 + 1, 0, none⟩ = some (.slice A5 i c5) ∧ wy.cell? ⟨M, 0, none⟩ = some (.slice (some ⟨b, off, none⟩) Z.length cz) ∧ wy.cell? ⟨b, off + i, none⟩ = some (.int .i64 (ix Z i)) := fun wx wy hg ⟨h1, h2, h3⟩ =>
        ⟨hg.cell h1 (own_not_low hown (Nat.lt_succ_self (M + 1 + 1))), hg.cell h2 hfarM, hg.cell h3 hfar⟩
      have Hal := hide hal
      have Hgro := hide hgro
      clear hal hgro
      refine wp_region_sink (S := fun w' : World => w'.cell? ⟨M + 1 + 1, 0, none⟩ = some (.slice A5 i c5) ∧ w'.cell? ⟨M, 0, none⟩ = some (.slice (some ⟨b, off, none⟩) Z.length cz) ∧ w'.cell? ⟨b, off + i, none⟩ = some (.int .i64 (ix Z i))) 11 (by kernel_rfl) (by kernel_rfl) (by kernel_rfl) (by kernel_rfl) ?hSq (fun hHeld => ?_)
      case hSq => exact ⟨m0, m1, m2⟩
      simp only [List.take_succ_cons, List.take_zero]
      refine wpAnyH_take (i := 0) (v := ?vqn0) rfl (by kernel_rfl) (by kernel_rfl) (by kernel_rfl) (fun _ _ _ h => h) (Or.inl ⟨by rfl, ?hyqn0⟩) (by assumption) ?_
      case hyqn0 => (intro w hSw; (try dsimp only at hSw); go_simp; try with_reducible rfl)
      try simp only [Act.put, List.getElem_toArray, List.getElem_cons_zero, List.setIfInBounds_toArray, List.set_cons_zero, List.set_cons_succ]
      refine wpAnyH_take (i := 1) (v := ?vqn1) rfl (by kernel_rfl) (by kernel_rfl) (by kernel_rfl) (fun _ _ _ h => h) (Or.inl ⟨by rfl, ?hyqn1⟩) (by assumption) ?_
      case hyqn1 => (intro w hSw; (try dsimp only at hSw); go_simp; try with_reducible rfl)
      try simp only [Act.put, List.getElem_toArray, List.getElem_cons_zero, List.getElem_cons_succ, List.setIfInBounds_toArray, List.set_cons_zero, List.set_cons_succ]
      refine wpAnyH_take (i := 2) (v := ?vqn2) rfl (by kernel_rfl) (by kernel_rfl) (by kernel_rfl) (fun _ _ _ h => h) (Or.inl ⟨by rfl, ?hyqn2⟩) (by assumption) ?_
      case hyqn2 => (intro w hSw; (try dsimp only at hSw); go_simp; try with_reducible rfl)
      try simp only [Act.put, List.getElem_toArray, List.getElem_cons_zero, List.getElem_cons_succ, List.setIfInBounds_toArray, List.set_cons_zero, List.set_cons_succ]
      refine wpAnyH_take (i := 3) (v := ?vqn3) rfl (by kernel_rfl) (by kernel_rfl) (by kernel_rfl) (fun _ _ _ h => h) (Or.inl ⟨by rfl, ?hyqn3⟩) (by assumption) ?_
      case hyqn3 => (intro w hSw; (try dsimp only at hSw); go_simp; try with_reducible rfl)
      try simp only [Act.put, List.getElem_toArray, List.getElem_cons_zero, List.getElem_cons_succ, List.setIfInBounds_toArray, List.set_cons_zero, List.set_cons_succ]
      refine wpAnyH_take (i := 4) (v := ?vqn4) rfl (by kernel_rfl) (by kernel_rfl) (by kernel_rfl) (fun _ _ _ h => h) (Or.inl ⟨by rfl, ?hyqn4⟩) (by assumption) ?_
      case hyqn4 => (intro w hSw; (try dsimp only at hSw); go_simp; try with_reducible rfl)
      try simp only [Act.put, List.getElem_toArray, List.getElem_cons_zero, List.getElem_cons_succ, List.setIfInBounds_toArray, List.set_cons_zero, List.set_cons_succ]
      refine wpAnyH_take (i := 5) (v := ?vqn5) rfl (by kernel_rfl) (by kernel_rfl) (by kernel_rfl) (fun _ _ _ h => h) (Or.inl ⟨by rfl, ?hyqn5⟩) (by assumption) ?_
      case hyqn5 => (intro w hSw; (try dsimp only at hSw); go_simp; try with_reducible rfl)
      try simp only [Act.put, List.getElem_toArray, List.getElem_cons_zero, List.getElem_cons_succ, List.setIfInBounds_toArray, List.set_cons_zero, List.set_cons_succ]
      refine wpAnyH_take (i := 6) (v := ?vqn6) rfl (by kernel_rfl) (by kernel_rfl) (by kernel_rfl) (fun _ _ _ h => h) (Or.inl ⟨by rfl, ?hyqn6⟩) (by assumption) ?_
      case hyqn6 => (intro w hSw; (try dsimp only at hSw); go_simp; try with_reducible rfl)
      try simp only [Act.put, List.getElem_toArray, List.getElem_cons_zero, List.getElem_cons_succ, List.setIfInBounds_toArray, List.set_cons_zero, List.set_cons_succ]
      refine wpAnyH_ready (rs := [7]) (by kernel_rfl) (by simp) (AllReadyH.cons rfl (fun K hK => ?_) AllReadyH.nil)
      go_simp
      go_at_call 11
      refine (v0.out _).mono ?_
      rintro e w8 ⟨rfl, rfl⟩
      go_wp2_with fail
      refine hK.out _ _ ?hkqn7 (fun hHeld => ?_)
      case hkqn7 => exact hHeld
      clear hK K
      try simp only [Act.put, List.getElem_toArray, List.getElem_cons_zero, List.getElem_cons_succ, List.setIfInBounds_toArray, List.set_cons_zero, List.set_cons_succ]
      refine wpAnyH_ready (rs := [8]) (by kernel_rfl) (by simp) (AllReadyH.cons rfl (fun K hK => ?_) AllReadyH.nil)
      go_simp
      refine hK.out _ _ ?hkqn8 (fun hHeld => ?_)
      case hkqn8 => exact Hal.out _ _ hHeld
      clear hK K
      try simp only [Act.put, List.getElem_toArray, List.getElem_cons_zero, List.getElem_cons_succ, List.setIfInBounds_toArray, List.set_cons_zero, List.set_cons_succ]
      refine wpAnyH_ready (rs := [9]) (by kernel_rfl) (by simp) (AllReadyH.cons rfl (fun K hK => ?_) AllReadyH.nil)
      refine step_append_lies _ (by rfl) _ _ _ (by rfl) (M + 3) 3 i0 _ 1 8 Try.underlying23 hj0 hz0 hz1 hz2 rfl (by omega) (.slice A5 i c5) i ((((Z.take i).map fun y => wi y 1 2000)).map (Value.int .i64)) (by rfl) (hown.alloc _) ⟨wr.heap.size, 0, none⟩ 1 1 [.int .i64 (wi (ix Z i) 1 2000)] (by rfl) (by rfl) (World.news_of_block (cs := #[.int .i64 (wi (ix Z i) 1 2000)]) (t := 3) (fr := (0, 0)) (heap_alloc_new wr.drew _)) (by simp [Value.oneCell']) (by omega) (by unfold maxLen; omega) (by omega) (by simp; omega) (wr.heap.size + 1) (by simp) ?_
      intro gg cap w6 hown6 hgrow hat hlt6
      have hb6 := ((hbo.alloc _).drewN 1).app (own_drewN (hown.alloc _) 1) (Nat.lt_succ_self (M + 1 + 1)) hgrow
      have hx6 := ((hbx.alloc _).drewN 1).app (own_drewN (hown.alloc _) 1) (show M < M + 3 by omega) hgrow
      have hn6 := ((hbn.alloc _).drewN 1).app (own_drewN (hown.alloc _) 1) (show M + 1 < M + 3 by omega) hgrow
      have m6 : w6.cell? ⟨M + 1 + 1, 0, none⟩ = some (.slice A5 i c5) := hb6.cell 0
      have z6 := hb6.frozen 0
      have hl6 := below_app (below_drewN (hbl.alloc (by omega) _) 1) (show M ≤ _ by simp; omega) (ownsRow_less (own_drewN (hown.alloc _) 1) (show M ≤ M + 3 by omega)) hgrow
      refine hK.out _ _ ?hkqn9 (fun hHeld => ?_)
      case hkqn9 => exact Hgro.out _ _ hgrow hHeld
      clear hK K
      try simp only [Act.put, List.getElem_toArray, List.getElem_cons_zero, List.getElem_cons_succ, List.setIfInBounds_toArray, List.set_cons_zero, List.set_cons_succ]
      refine wpAnyH_take (i := 10) (v := ?vqn10) rfl (by kernel_rfl) (by kernel_rfl) (by kernel_rfl) (fun _ _ _ h => h) (Or.inl ⟨by rfl, ?hyqn10⟩) (by assumption) ?_
      case hyqn10 => (intro w hSw; (try dsimp only at hSw); go_simp; try with_reducible rfl)
      try simp only [Act.put, List.getElem_toArray, List.getElem_cons_zero, List.getElem_cons_succ, List.setIfInBounds_toArray, List.set_cons_zero, List.set_cons_succ]
      refine wpAnyH_done (by kernel_rfl) ?_ _
      refine sink_run rfl rfl ?_
      go_simp
      all_goals
        have hb9 := hb6.set_ 0 (.slice (some ⟨gg, 0, none⟩) (i + 1) cap)
        have hx9 := hx6.far (p := ⟨M + 1 + 1, 0, none⟩) (show M ≠ M + 1 + 1 by omega) (.slice (some ⟨gg, 0, none⟩) (i + 1) cap)
        have hn9 := hn6.far (p := ⟨M + 1 + 1, 0, none⟩) (show M + 1 ≠ M + 1 + 1 by omega) (.slice (some ⟨gg, 0, none⟩) (i + 1) cap)
        have ho9 := own_setCell_low hown6 (a := ⟨M + 1 + 1, 0, none⟩) (show M + 1 + 1 < M + 3 by omega) (.slice (some ⟨gg, 0, none⟩) (i + 1) cap)
        have hl9 := hl6.setCell (p := ⟨M + 1 + 1, 0, none⟩) (show M ≤ M + 1 + 1 by omega) (.slice (some ⟨gg, 0, none⟩) (i + 1) cap)
        have hs9 : M + 3 ≤ w6.heap.size := by have := hb6.lt; omega
        have htk : ((Z.take (i + 1)).map fun y => wi y 1 2000).map (Value.int .i64) = ((Z.take i).map fun y => wi y 1 2000).map (Value.int .i64) ++ [.int .i64 (wi (ix Z i) 1 2000)] := by
          rw [List.take_succ_eq_append_getElem hin, ix_eq hin]; simp only [List.map_append, List.map_cons, List.map_nil]
        have Htk := hide htk
        clear htk hb6 hx6 hn6 hown6 hl6 hgrow m6 z6
        go_wp2_with fail
        go_roundw
        case rel => exact ⟨i + 1, _, _, by omega, by go_num, hx9, hn9, hb9, by rw [Htk.out]; exact ho9, hl9, by simpa using hs9⟩
        case measure => simp [intOf]; omega
    · obtain rfl : i = min Z.length 5 := by omega
      have Hm : Hid (mkW Z = if Z.length = 0 then [400] else (Z.take 5).map fun y => wi y 1 2000) := hide rfl
      generalize mkW Z = ws at *
      have z0 := hbo.frozen 0
      have hd2 : (decide ((min Z.length 5 : Nat) < (Z.length : Int)) && decide ((min Z.length 5 : Nat) < (5 : Int))) = false := by
        rw [Bool.and_eq_false_iff]
        by_cases h : Z.length ≤ 5
        · left; simp; omega
        · right; simp; omega
      go_upto_if 34 with fail
      all_goals
        go_cut [] (fun wc => ∃ A8 c8, Blk wc (M + 1) 25 #[.slice none 0 0, .int .i64 0] ∧ Blk wc (M + 1 + 1) 25 #[.slice A8 ws.length c8, .int .i64 D] ∧ wc.ownsRow (M + 3) 3 1 (.slice A8 ws.length c8) ws.length (ws.map (Value.int .i64)) ∧ Below M w wc)
        case first =>
          by_cases h0 : Z.length = 0
          · have hw1 : ws = [400] := by rw [Hm.out, if_pos h0]
            have e1 : ((min Z.length 5 : Nat) : Int) = 0 := by omega
            have d3 : (((min Z.length 5 : Nat) : Int) == 0) = true := by rw [e1]; rfl
            have hb8 := (hbo.alloc (.cells #[.int .i64 400] 3)).set_ 0 (.slice (some ⟨wr.heap.size, 0, none⟩) 1 1)
            have hn8 := (hbn.alloc (.cells #[.int .i64 400] 3)).far (p := ⟨M + 1 + 1, 0, none⟩) (show M + 1 ≠ M + 1 + 1 by omega) (.slice (some ⟨wr.heap.size, 0, none⟩) 1 1)
            have hl8 := (hbl.alloc (by omega) (.cells #[.int .i64 400] 3)).setCell (p := ⟨M + 1 + 1, 0, none⟩) (show M ≤ M + 1 + 1 by omega) (.slice (some ⟨wr.heap.size, 0, none⟩) 1 1)
            have ho8 : ((wr.alloc (.cells #[.int .i64 400] 3)).setCell ⟨M + 1 + 1, 0, none⟩ (.slice (some ⟨wr.heap.size, 0, none⟩) 1 1)).ownsRow (M + 3) 3 1 (.slice (some ⟨wr.heap.size, 0, none⟩) 1 1) 1 [.int .i64 400] :=
              own_setCell_low (World.ownsRow_lit (base := M + 3) (size := 1) wr #[.int .i64 400] 1 (by omega) (by decide) rfl) (a := ⟨M + 1 + 1, 0, none⟩) (show M + 1 + 1 < M + 3 by omega) _
            have m8 : (wr.alloc (.cells #[.int .i64 400] 3)).cell? ⟨M + 1 + 1, 0, none⟩ = some (.slice A5 (min Z.length 5) c5) := (hbo.alloc _).cell 0
            have z8 : (wr.alloc (.cells #[.int .i64 400] 3)).frozen? ⟨M + 1 + 1, 0, none⟩ = false := (hbo.alloc _).frozen 0
            have Hb8 := hide hb8
            have Hn8 := hide hn8
            have Hl8 := hide hl8
            have Ho8 := hide ho8
            have Hw1 := hide hw1
            clear hb8 hn8 hl8 ho8 hw1 hbx hbn hown e1 h0 hd2 hi hlt m1
            go_wp2_with fail
            all_goals
              go_meet
              rw [Hw1.out]
              exact ⟨_, _, Hn8.out, Hb8.out, Ho8.out, Hl8.out⟩
          · have hw1 : ws = (Z.take 5).map fun y => wi y 1 2000 := by rw [Hm.out, if_neg h0]
            have hwl : ws.length = min Z.length 5 := by rw [hw1, List.length_map, List.length_take]; omega
            have htk : Z.take (min Z.length 5) = Z.take 5 := by
              rcases Nat.le_total Z.length 5 with h | h
              · rw [Nat.min_eq_left h, List.take_of_length_le h, List.take_of_length_le (Nat.le_refl _)]
              · rw [Nat.min_eq_right h]
            have d3 : (((min Z.length 5 : Nat) : Int) == 0) = false := beq_eq_false_iff_ne.2 (by omega)
            rw [htk, ← hw1] at hown
            have Hwl := hide hwl
            clear hw1 htk hwl h0 hd2 hi hlt m1 hbx
            go_wp2_with fail
            go_meet
            rw [Hwl.out]
            exact ⟨_, _, hbn, hbo, hown, hbl⟩
        case rest =>
          obtain ⟨A8, c8, hn8, hb8, ho8, hl8⟩ := hcut
          clear hbx hbn hbo hown hbl m0 m1 z0 hd2 hi hlt hsz Hm
          have y0 : wc.cell? ⟨M + 1 + 1, 0, none⟩ = some (.slice A8 ws.length c8) := hb8.cell 0
          have y1 : wc.cell? ⟨M + 1 + 1, 1, none⟩ = some (.int .i64 D) := hb8.cell 1
          have n0 : wc.cell? ⟨M + 1, 0, none⟩ = some (.slice none 0 0) := hn8.cell 0
          have n1 : wc.cell? ⟨M + 1, 1, none⟩ = some (.int .i64 0) := hn8.cell 1
          have zn := hn8.frozen 0
          have zn1 := hn8.frozen 1
          go_wp2_with fail
          (try simp only [Exit.inBlock, Exit.then])
          refine bodyPost_ret (v := .agg #[.slice A8 ws.length c8, .int .i64 D]) (by simp [results, Try.results8, go_sem, n0, n1]) rfl ?_
          refine ⟨A8, c8, rfl, ?_, ?_⟩
          · rw [← Hw.out]
            exact ownsRow_less (own_setCell_low (own_setCell_low ho8 (a := ⟨M + 1, 0, none⟩) (show M + 1 < M + 3 by omega) _) (a := ⟨M + 1, 1, none⟩) (show M + 1 < M + 3 by omega) _) (by omega)
          · rw [← Hw.out]
            exact (hl8.setCell (p := ⟨M + 1, 0, none⟩) (show M ≤ M + 1 by omega) _).setCell (p := ⟨M + 1, 1, none⟩) (show M ≤ M + 1 by omega) _
end Go.Proofs.Ytmjhmcjlbcadaaa.Ln
