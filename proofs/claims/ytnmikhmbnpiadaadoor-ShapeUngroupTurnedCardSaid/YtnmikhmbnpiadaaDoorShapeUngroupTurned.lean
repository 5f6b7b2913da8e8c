/- What was in a turned group directly stays where it is when this is removed, up to rounding. No condition. -/
import Derived.Test.YtnmikhmbnpiadaaDoorShapeUngroupMake
import Derived.Test.YtnmikhmbnpiadaaDoorShapeTab
import Derived.Test.YtnmikhmbnpiadaaDoorShapePt
import Derived.Test.YtnmikhmbnpiadaaDoorSink
import Derived.Test.YtnmikhmbnpiadaaDoorTie
namespace Go.Proofs.YtnmikhmbnpiadaaDoor.ShapeUngroupTurnedDone
open Go.ChangeShapes Go.WideShapes Go.ChangeAt Go.RowKit Go.Frm Wi Shp

theorem rdF_congr {w : World} {A : Option Addr} {n size : Nat} {f g : Nat → Nat → Value} (h : RdF w A n size f) (he : ∀ i j, i < n → j < size → f i j = g i j) : RdF w A n size g := by
  rcases h with h | ⟨b, off, rfl, hc⟩
  · exact .inl h
  · exact .inr ⟨b, off, rfl, fun i j hi hj => by rw [hc i j hi hj, he i j hi hj]⟩
/-- a cell of a drawing is stored -/
theorem rdF_upd {w : World} {b off n size : Nat} {f : Nat → Nat → Value} (h : RdF w (some ⟨b, off, none⟩) n size f) (k j : Nat) (hk : k < n) (hj : j < size) (u : Value) :
    RdF (w.setCell ⟨b, off + k * size + j, none⟩ u) (some ⟨b, off, none⟩) n size (upd2 f k j u) := by
  obtain ⟨b', off', he, hc⟩ : ∃ b' off', some (⟨b, off, none⟩ : Addr) = some ⟨b', off', none⟩ ∧ ∀ i j, i < n → j < size → w.cell? ⟨b', off' + i * size + j, none⟩ = some (f i j) := by
    rcases h with rfl | h
    · omega
    · exact h
  injection he with he
  injection he with he1 he2
  subst he1 he2
  refine .inr ⟨b, off, rfl, fun i j' hi hj' => ?_⟩
  unfold upd2
  by_cases hij : i = k ∧ j' = j
  · obtain ⟨rfl, rfl⟩ := hij
    rw [if_pos ⟨rfl, rfl⟩]
    exact World.cell?_setCell_same _ _ _ (hc i j' hi hj)
  · rw [if_neg hij, World.cell?_setCell_other (h := by
      intro hh
      injection hh with _ hh _
      apply hij
      have h1 : i * size + j' = k * size + j := by omega
      have h2 : i = k := by
        rcases Nat.lt_trichotomy i k with h | h | h
        · have := Nat.mul_le_mul_right size (show i + 1 ≤ k from h)
          rw [Nat.add_mul] at this
          omega
        · exact h
        · have := Nat.mul_le_mul_right size (show k + 1 ≤ i from h)
          rw [Nat.add_mul] at this
          omega
      subst h2
      exact ⟨rfl, by omega⟩)]
    exact hc i j' hi hj'

set_option maxRecDepth 100000 in
set_option maxHeartbeats 8000000 in
theorem walk (A : Option Addr) (n c : Nat) (G : Nat → Nat → Int) (T : Nat → Nat → ByteArray) (turn : Int) (w : World) (hq : TabQ w) (hr : RdF w A n 12 (shV G T)) (hn : n ≤ 9223372036854775807) (hwf : ∀ i j, i < n → j < 10 → (Lit.int .i64 (G i j)).wf = true) (hwt : (Lit.int .i64 turn).wf = true) :
    Calls Tryd.prog 6 #[.slice A n c, .int .i64 turn] w fun e w' => e = .returned (.bool true) ∧ Below w.heap.size w w' := by
  have Hq := hide hq
  have Hsh := hide (fun wx (hx : RdF wx A n 12 (shV G T)) => shapes_ok A n c G T true wx hx hn hwf)
  have Hw := hide (fun wx => within_any turn 0 3599 wx hwt (by omega) (by omega) (by omega))
  have htb := wi_bd turn (show (0 : Int) ≤ 3599 by omega)
  clear hq hwf hwt
  go_enter Tryd.func6, Tryd.ntmps6
  go_wp2_with fail
  refine (keptTurned_ok w Hq.out).mono ?_
  rintro e w1 ⟨rfl, hb1⟩
  have hr1 := hr.below hb1
  go_wp2_with fail
  refine (Hsh.out w1 hr1).mono ?_
  rintro e w2 ⟨A2, c2, rfl, hown, hb2⟩
  have hbl2 := hb1.trans (hb2.mono hb1.size)
  have hm10 : min n 10 ≤ 10 := Nat.min_le_right _ _
  have hraw := raw_made G true (min n 10)
  generalize min n 10 = m at *
  have hb1s := hb1.size
  have hown := ownsRow_less hown hb1s
  clear Hsh hr hr1 hb1 hb2 hn hb1s
  generalize shG G true = G2 at *
  generalize shT T = T2 at *
  have Hraw := hide hraw
  clear hraw
  go_wp2_with fail
  go_loopw [23] (fun a wr => ∃ i : Nat, i ≤ m ∧ a = .int .i64 i ∧ wr.ownsRow w.heap.size 23 12 (.slice A2 m c2) m (rowF m 12 (shV (mixG G2 i) T2)) ∧ Below w.heap.size w wr) (fun a _ => m - (intOf a).toNat)
  case atStart => exact ⟨0, by omega, rfl, by rw [show mixG G2 0 = G2 from rfl]; exact hown, hbl2⟩
  case round =>
    clear hown hbl2
    obtain ⟨i, hi, rfl, hown, hbl⟩ := hrel
    by_cases hlt : i < m
    · obtain ⟨g2, rfl, hg2a, hg2b, hc2, hz2⟩ := own_addr hown (by omega)
      have z1 := hz2 (i * 12 + 1)
      have z2 := hz2 (i * 12 + 2)
      have k1 : wr.cell? ⟨g2, i * 12 + 1, none⟩ = some (.int .i64 (G2 i 1)) := by
        rw [own_cellF hown hlt (show 1 < 12 by omega)]
        simp [shV, mixG]
      have k2 : wr.cell? ⟨g2, i * 12 + 2, none⟩ = some (.int .i64 (G2 i 2)) := by
        rw [own_cellF hown hlt (show 2 < 12 by omega)]
        simp [shV, mixG]
      have hi1 : IntKind.i64.wrap ((i : Int) + 1) = (i : Int) + 1 := IntWalk.i64_in _ (by omega)
      have Hown := hide hown
      have Hbl := hide hbl
      have Hg := hide hg2a
      clear hz2 hown hbl hg2b hc2 hg2a
      by_cases h0 : 0 < i
      · have d0 : decide ((i : Int) > 0) = true := by simp; omega
        have e1 : lvG G2 i 1 = 1 := by unfold lvG; rw [if_pos rfl, if_neg (by omega)]
        have E1 := hide e1
        clear e1
        by_cases h5 : G2 i 2 = 5
        · have d5 : (G2 i 2 == 5) = true := by simpa using h5
          have E2 := hide (show lvG G2 i 2 = 0 by unfold lvG; rw [if_neg (by omega), if_pos rfl, if_pos h5])
          clear h5
          go_wp2_with fail
          exact ⟨⟨i + 1, by omega, by simp, by
            have := own_storeF (own_storeF (own_storeF Hown.out i (show 1 < 12 by omega) (.int .i64 0)) i (show 1 < 12 by omega) (.int .i64 1)) i (show 2 < 12 by omega) (.int .i64 0)
            rw [rowF_congr (fun a b _ _ => mix_next (G := G2) (T := T2) (i := i) (by simp [upd2, E1.out]) (by simp [upd2, E2.out]) (fun a b h1 h2 => by simp [upd2, h1, h2]) a b)] at this
            exact this, ((Hbl.out.setCell (p := ⟨g2, i * 12 + 1, none⟩) Hg.out _).setCell (p := ⟨g2, i * 12 + 1, none⟩) Hg.out _).setCell (p := ⟨g2, i * 12 + 2, none⟩) Hg.out _⟩, by simp only [intOf]; omega⟩
        · have d5 : (G2 i 2 == 5) = false := by simpa using h5
          have E2 := hide (show lvG G2 i 2 = G2 i 2 by unfold lvG; rw [if_neg (by omega), if_pos rfl, if_neg h5])
          clear h5
          go_wp2_with fail
          exact ⟨⟨i + 1, by omega, by simp, by
            have := own_storeF (own_storeF Hown.out i (show 1 < 12 by omega) (.int .i64 0)) i (show 1 < 12 by omega) (.int .i64 1)
            rw [rowF_congr (fun a b _ _ => mix_next (G := G2) (T := T2) (i := i) (by simp [upd2, E1.out]) (by simp [upd2, E2.out, shV, mixG]) (fun a b h1 h2 => by simp [upd2, h1]) a b)] at this
            exact this, (Hbl.out.setCell (p := ⟨g2, i * 12 + 1, none⟩) Hg.out _).setCell (p := ⟨g2, i * 12 + 1, none⟩) Hg.out _⟩, by simp only [intOf]; omega⟩
      · have d0 : decide ((i : Int) > 0) = false := by simp; omega
        have e1 : lvG G2 i 1 = 0 := by unfold lvG; rw [if_pos rfl, if_pos (by omega)]
        have E1 := hide e1
        clear e1
        by_cases h5 : G2 i 2 = 5
        · have d5 : (G2 i 2 == 5) = true := by simpa using h5
          have E2 := hide (show lvG G2 i 2 = 0 by unfold lvG; rw [if_neg (by omega), if_pos rfl, if_pos h5])
          clear h5
          go_wp2_with fail
          exact ⟨⟨i + 1, by omega, by simp, by
            have := own_storeF (own_storeF Hown.out i (show 1 < 12 by omega) (.int .i64 0)) i (show 2 < 12 by omega) (.int .i64 0)
            rw [rowF_congr (fun a b _ _ => mix_next (G := G2) (T := T2) (i := i) (by simp [upd2, E1.out]) (by simp [upd2, E2.out]) (fun a b h1 h2 => by simp [upd2, h1, h2]) a b)] at this
            exact this, (Hbl.out.setCell (p := ⟨g2, i * 12 + 1, none⟩) Hg.out _).setCell (p := ⟨g2, i * 12 + 2, none⟩) Hg.out _⟩, by simp only [intOf]; omega⟩
        · have d5 : (G2 i 2 == 5) = false := by simpa using h5
          have E2 := hide (show lvG G2 i 2 = G2 i 2 by unfold lvG; rw [if_neg (by omega), if_pos rfl, if_neg h5])
          clear h5
          go_wp2_with fail
          exact ⟨⟨i + 1, by omega, by simp, by
            have := own_storeF Hown.out i (show 1 < 12 by omega) (.int .i64 0)
            rw [rowF_congr (fun a b _ _ => mix_next (G := G2) (T := T2) (i := i) (by simp [upd2, E1.out]) (by simp [upd2, E2.out, shV, mixG]) (fun a b h1 h2 => by simp [upd2, h1]) a b)] at this
            exact this, Hbl.out.setCell (p := ⟨g2, i * 12 + 1, none⟩) Hg.out _⟩, by simp only [intOf]; omega⟩
    · have him : m = i := by omega
      subst him
      have hown : wr.ownsRow w.heap.size 23 12 (.slice A2 m c2) m (rowF m 12 (shV (lvG G2) T2)) := by
        rw [rowF_congr (f := shV (lvG G2) T2) (g := shV (mixG G2 m) T2) (fun a b ha _ => by unfold shV mixG; rw [if_pos ha])]
        exact hown
      clear hlt hi
      by_cases hm0 : m = 0
      · subst hm0
        go_wp2_with fail
        go_ret
        exact ⟨rfl, hbl⟩
      obtain ⟨p, rfl⟩ : ∃ p, m = p + 1 := ⟨m - 1, by omega⟩
      have d0 : (((p + 1 : Nat) : Int) == 0) = false := by simp; omega
      obtain ⟨g2, rfl, hg2a, hg2b, hc2, hz2⟩ := own_addr hown (by omega)
      have hrd := RdF.of_own hown
      clear hown hm0
      have hc : ∀ j, j < 12 → wr.cell? ⟨g2, j, none⟩ = some (shV (lvG G2) T2 0 j) := fun j hj => by
        obtain ⟨b', off', hA, hc⟩ := hrd.at_ (show 0 < p + 1 by omega)
        injection hA with hA
        injection hA with hA1 hA2
        subst hA1 hA2
        have := hc j hj
        simpa using this
      have k0 : wr.cell? ⟨g2, 0, none⟩ = some (.int .i64 (lvG G2 0 0)) := hc 0 (by omega)
      have k1 : wr.cell? ⟨g2, 1, none⟩ = some (.int .i64 (lvG G2 0 1)) := hc 1 (by omega)
      have k2 : wr.cell? ⟨g2, 2, none⟩ = some (.int .i64 (lvG G2 0 2)) := hc 2 (by omega)
      have k3 : wr.cell? ⟨g2, 3, none⟩ = some (.int .i64 (lvG G2 0 3)) := hc 3 (by omega)
      have k4 : wr.cell? ⟨g2, 4, none⟩ = some (.int .i64 (lvG G2 0 4)) := hc 4 (by omega)
      have k5 : wr.cell? ⟨g2, 5, none⟩ = some (.int .i64 (lvG G2 0 5)) := hc 5 (by omega)
      have k6 : wr.cell? ⟨g2, 6, none⟩ = some (.int .i64 (lvG G2 0 6)) := hc 6 (by omega)
      have k7 : wr.cell? ⟨g2, 7, none⟩ = some (.int .i64 (lvG G2 0 7)) := hc 7 (by omega)
      have k8 : wr.cell? ⟨g2, 8, none⟩ = some (.int .i64 (lvG G2 0 8)) := hc 8 (by omega)
      have k9 : wr.cell? ⟨g2, 9, none⟩ = some (.int .i64 (lvG G2 0 9)) := hc 9 (by omega)
      have k10 : wr.cell? ⟨g2, 10, none⟩ = some (.string (T2 0 10)) := hc 10 (by omega)
      have k11 : wr.cell? ⟨g2, 11, none⟩ = some (.string (T2 0 11)) := hc 11 (by omega)
      have z0 := hz2 0
      have z1 := hz2 1
      have z2 := hz2 2
      have z3 := hz2 3
      have z4 := hz2 4
      have z5 := hz2 5
      have z6 := hz2 6
      have z7 := hz2 7
      have z8 := hz2 8
      have z9 := hz2 9
      have z10 := hz2 10
      have z11 := hz2 11
      clear hc hz2
      go_upto_region 15 with fail
      refine wp_region_sink (S := fun w' => w'.cell? ⟨g2, 3, none⟩ = some (.int .i64 (lvG G2 0 3)) ∧ w'.cell? ⟨g2, 4, none⟩ = some (.int .i64 (lvG G2 0 4)) ∧ w'.cell? ⟨g2, 5, none⟩ = some (.int .i64 (lvG G2 0 5)) ∧ w'.cell? ⟨g2, 6, none⟩ = some (.int .i64 (lvG G2 0 6))) 21 (by kernel_rfl) (by kernel_rfl) (by kernel_rfl) (by kernel_rfl) ?hSA (fun hHeld => ?_)
      case hSA => exact ⟨k3, k4, k5, k6⟩
      simp only [List.take_succ_cons, List.take_zero]
      refine wpAnyH_take (i := 0) (v := ?vAn0) rfl (by kernel_rfl) (by kernel_rfl) (by kernel_rfl) (fun _ _ _ h => h) (Or.inl ⟨by rfl, ?hyAn0⟩) (by assumption) ?_
      case hyAn0 => (intro w hSw; (try dsimp only at hSw); go_simp; try with_reducible rfl)
      try simp only [Act.put]
      refine wpAnyH_take (i := 1) (v := ?vAn1) rfl (by kernel_rfl) (by kernel_rfl) (by kernel_rfl) (fun _ _ _ h => h) (Or.inl ⟨by rfl, ?hyAn1⟩) (by assumption) ?_
      case hyAn1 => (intro w hSw; (try dsimp only at hSw); go_simp; try with_reducible rfl)
      try simp only [Act.put]
      refine wpAnyH_take (i := 2) (v := ?vAn2) rfl (by kernel_rfl) (by kernel_rfl) (by kernel_rfl) (fun _ _ _ h => h) (Or.inl ⟨by rfl, ?hyAn2⟩) (by assumption) ?_
      case hyAn2 => (intro w hSw; (try dsimp only at hSw); go_simp; try with_reducible rfl)
      try simp only [Act.put]
      refine wpAnyH_take (i := 3) (v := ?vAn3) rfl (by kernel_rfl) (by kernel_rfl) (by kernel_rfl) (fun _ _ _ h => h) (Or.inl ⟨by rfl, ?hyAn3⟩) (by assumption) ?_
      case hyAn3 => (intro w hSw; (try dsimp only at hSw); go_simp; try with_reducible rfl)
      try simp only [Act.put]
      refine wpAnyH_take (i := 4) (v := ?vAn4) rfl (by kernel_rfl) (by kernel_rfl) (by kernel_rfl) (fun _ _ _ h => h) (Or.inl ⟨by rfl, ?hyAn4⟩) (by assumption) ?_
      case hyAn4 => (intro w hSw; (try dsimp only at hSw); go_simp; try with_reducible rfl)
      try simp only [Act.put]
      refine wpAnyH_take (i := 5) (v := ?vAn5) rfl (by kernel_rfl) (by kernel_rfl) (by kernel_rfl) (fun _ _ _ h => h) (Or.inl ⟨by rfl, ?hyAn5⟩) (by assumption) ?_
      case hyAn5 => (intro w hSw; (try dsimp only at hSw); go_simp; try with_reducible rfl)
      try simp only [Act.put]
      refine wpAnyH_take (i := 6) (v := ?vAn6) rfl (by kernel_rfl) (by kernel_rfl) (by kernel_rfl) (fun _ _ _ h => h) (Or.inl ⟨by rfl, ?hyAn6⟩) (by assumption) ?_
      case hyAn6 => (intro w hSw; (try dsimp only at hSw); go_simp; try with_reducible rfl)
      try simp only [Act.put]
      refine wpAnyH_take (i := 7) (v := ?vAn7) rfl (by kernel_rfl) (by kernel_rfl) (by kernel_rfl) (fun _ _ _ h => h) (Or.inl ⟨by rfl, ?hyAn7⟩) (by assumption) ?_
      case hyAn7 => (intro w hSw; (try dsimp only at hSw); go_simp; try with_reducible rfl)
      try simp only [Act.put]
      refine wpAnyH_take (i := 8) (v := ?vAn8) rfl (by kernel_rfl) (by kernel_rfl) (by kernel_rfl) (fun _ _ _ h => h) (Or.inl ⟨by rfl, ?hyAn8⟩) (by assumption) ?_
      case hyAn8 => (intro w hSw; (try dsimp only at hSw); go_simp; try with_reducible rfl)
      try simp only [Act.put]
      refine wpAnyH_take (i := 9) (v := ?vAn9) rfl (by kernel_rfl) (by kernel_rfl) (by kernel_rfl) (fun _ _ _ h => h) (Or.inl ⟨by rfl, ?hyAn9⟩) (by assumption) ?_
      case hyAn9 => (intro w hSw; (try dsimp only at hSw); go_simp; try with_reducible rfl)
      try simp only [Act.put]
      refine wpAnyH_take (i := 10) (v := ?vAn10) rfl (by kernel_rfl) (by kernel_rfl) (by kernel_rfl) (fun _ _ _ h => h) (Or.inl ⟨by rfl, ?hyAn10⟩) (by assumption) ?_
      case hyAn10 => (intro w hSw; (try dsimp only at hSw); go_simp; try with_reducible rfl)
      try simp only [Act.put]
      refine wpAnyH_take (i := 11) (v := ?vAn11) rfl (by kernel_rfl) (by kernel_rfl) (by kernel_rfl) (fun _ _ _ h => h) (Or.inl ⟨by rfl, ?hyAn11⟩) (by assumption) ?_
      case hyAn11 => (intro w hSw; (try dsimp only at hSw); go_simp; try with_reducible rfl)
      try simp only [Act.put]
      refine wpAnyH_take (i := 12) (v := ?vAn12) rfl (by kernel_rfl) (by kernel_rfl) (by kernel_rfl) (fun _ _ _ h => h) (Or.inl ⟨by rfl, ?hyAn12⟩) (by assumption) ?_
      case hyAn12 => (intro w hSw; (try dsimp only at hSw); go_simp; try with_reducible rfl)
      try simp only [Act.put]
      refine wpAnyH_take (i := 13) (v := ?vAn13) rfl (by kernel_rfl) (by kernel_rfl) (by kernel_rfl) (fun _ _ _ h => h) (Or.inl ⟨by rfl, ?hyAn13⟩) (by assumption) ?_
      case hyAn13 => (intro w hSw; (try dsimp only at hSw); go_simp; try with_reducible rfl)
      try simp only [Act.put]
      refine wpAnyH_take (i := 14) (v := ?vAn14) rfl (by kernel_rfl) (by kernel_rfl) (by kernel_rfl) (fun _ _ _ h => h) (Or.inl ⟨by rfl, ?hyAn14⟩) (by assumption) ?_
      case hyAn14 => (intro w hSw; (try dsimp only at hSw); go_simp; try with_reducible rfl)
      try simp only [Act.put]
      refine wpAnyH_take (i := 15) (v := ?vAn15) rfl (by kernel_rfl) (by kernel_rfl) (by kernel_rfl) (fun _ _ _ h => h) (Or.inl ⟨by rfl, ?hyAn15⟩) (by assumption) ?_
      case hyAn15 => (intro w hSw; (try dsimp only at hSw); go_simp; try with_reducible rfl)
      try simp only [Act.put]
      refine wpAnyH_take (i := 16) (v := ?vAn16) rfl (by kernel_rfl) (by kernel_rfl) (by kernel_rfl) (fun _ _ _ h => h) (Or.inl ⟨by rfl, ?hyAn16⟩) (by assumption) ?_
      case hyAn16 => (intro w hSw; (try dsimp only at hSw); go_simp; try with_reducible rfl)
      try simp only [Act.put]
      refine wpAnyH_take (i := 17) (v := ?vAn17) rfl (by kernel_rfl) (by kernel_rfl) (by kernel_rfl) (fun _ _ _ h => h) (Or.inl ⟨by rfl, ?hyAn17⟩) (by assumption) ?_
      case hyAn17 => (intro w hSw; (try dsimp only at hSw); go_simp; try with_reducible rfl)
      try simp only [Act.put]
      refine wpAnyH_ready (rs := [18]) (by kernel_rfl) (by simp) (AllReadyH.cons rfl (fun K hK => ?_) AllReadyH.nil)
      go_simp
      go_at_call 11
      with_reducible refine (Hw.out _).mono ?_
      rintro e wA ⟨rfl, rfl⟩
      refine hK.out _ _ ?hkAn18 (fun hHeld => ?_)
      case hkAn18 => exact hHeld
      clear hK K
      try simp only [Act.put]
      refine wpAnyH_take (i := 19) (v := ?vAn19) rfl (by kernel_rfl) (by kernel_rfl) (by kernel_rfl) (fun _ _ _ h => h) (Or.inl ⟨by rfl, ?hyAn19⟩) (by assumption) ?_
      case hyAn19 => (intro w hSw; (try dsimp only at hSw); go_simp; try with_reducible rfl)
      try simp only [Act.put]
      refine wpAnyH_take (i := 20) (v := ?vAn20) rfl (by kernel_rfl) (by kernel_rfl) (by kernel_rfl) (fun _ _ _ h => h) (Or.inl ⟨by rfl, ?hyAn20⟩) (by assumption) ?_
      case hyAn20 => (intro w hSw; (try dsimp only at hSw); go_simp; try with_reducible rfl)
      try simp only [Act.put]
      refine wpAnyH_done (by kernel_rfl) ?_ _
      refine sink_run rfl rfl ?_
      go_simp
      have hz : RdF ((((((((((((wr.setCell ⟨g2, 0, none⟩ (.int .i64 1)).setCell ⟨g2, 1, none⟩ (.int .i64 0)).setCell ⟨g2, 2, none⟩ (.int .i64 5)).setCell ⟨g2, 3, none⟩ (.int .i64 (lvG G2 0 3))).setCell ⟨g2, 4, none⟩ (.int .i64 (lvG G2 0 4))).setCell ⟨g2, 5, none⟩ (.int .i64 (lvG G2 0 5))).setCell ⟨g2, 6, none⟩ (.int .i64 (lvG G2 0 6))).setCell ⟨g2, 7, none⟩ (.int .i64 (wi turn 0 3599))).setCell ⟨g2, 8, none⟩ (.int .i64 0)).setCell ⟨g2, 9, none⟩ (.int .i64 0)).setCell ⟨g2, 10, none⟩ (.string ⟨#[]⟩)).setCell ⟨g2, 11, none⟩ (.string ⟨#[]⟩)).drew (some ⟨g2, 0, none⟩) (p + 1) 12 (shV (hdG G2 (wi turn 0 3599)) (hdT T2)) := rdF_congr (RdF.drewN (rdF_upd (rdF_upd (rdF_upd (rdF_upd (rdF_upd (rdF_upd (rdF_upd (rdF_upd (rdF_upd (rdF_upd (rdF_upd (rdF_upd hrd 0 0 (by omega) (by omega) (.int .i64 1)) 0 1 (by omega) (by omega) (.int .i64 0)) 0 2 (by omega) (by omega) (.int .i64 5)) 0 3 (by omega) (by omega) (.int .i64 (lvG G2 0 3))) 0 4 (by omega) (by omega) (.int .i64 (lvG G2 0 4))) 0 5 (by omega) (by omega) (.int .i64 (lvG G2 0 5))) 0 6 (by omega) (by omega) (.int .i64 (lvG G2 0 6))) 0 7 (by omega) (by omega) (.int .i64 (wi turn 0 3599))) 0 8 (by omega) (by omega) (.int .i64 0)) 0 9 (by omega) (by omega) (.int .i64 0)) 0 10 (by omega) (by omega) (.string ⟨#[]⟩)) 0 11 (by omega) (by omega) (.string ⟨#[]⟩)) 1) (fun a b _ hb => by
        by_cases ha : a = 0
        · subst ha
          match b, hb with
          | 0, _ => rfl
          | 1, _ => rfl
          | 2, _ => rfl
          | 3, _ => rfl
          | 4, _ => rfl
          | 5, _ => rfl
          | 6, _ => rfl
          | 7, _ => rfl
          | 8, _ => rfl
          | 9, _ => rfl
          | 10, _ => rfl
          | 11, _ => rfl
        · simp [upd2, ha, shV, hdG, hdT])
      have hbz : Below w.heap.size w ((((((((((((wr.setCell ⟨g2, 0, none⟩ (.int .i64 1)).setCell ⟨g2, 1, none⟩ (.int .i64 0)).setCell ⟨g2, 2, none⟩ (.int .i64 5)).setCell ⟨g2, 3, none⟩ (.int .i64 (lvG G2 0 3))).setCell ⟨g2, 4, none⟩ (.int .i64 (lvG G2 0 4))).setCell ⟨g2, 5, none⟩ (.int .i64 (lvG G2 0 5))).setCell ⟨g2, 6, none⟩ (.int .i64 (lvG G2 0 6))).setCell ⟨g2, 7, none⟩ (.int .i64 (wi turn 0 3599))).setCell ⟨g2, 8, none⟩ (.int .i64 0)).setCell ⟨g2, 9, none⟩ (.int .i64 0)).setCell ⟨g2, 10, none⟩ (.string ⟨#[]⟩)).setCell ⟨g2, 11, none⟩ (.string ⟨#[]⟩)).drew := (below_drewN ((((((((((((hbl.setCell (p := ⟨g2, 0, none⟩) hg2a _).setCell (p := ⟨g2, 1, none⟩) hg2a _).setCell (p := ⟨g2, 2, none⟩) hg2a _).setCell (p := ⟨g2, 3, none⟩) hg2a _).setCell (p := ⟨g2, 4, none⟩) hg2a _).setCell (p := ⟨g2, 5, none⟩) hg2a _).setCell (p := ⟨g2, 6, none⟩) hg2a _).setCell (p := ⟨g2, 7, none⟩) hg2a _).setCell (p := ⟨g2, 8, none⟩) hg2a _).setCell (p := ⟨g2, 9, none⟩) hg2a _).setCell (p := ⟨g2, 10, none⟩) hg2a _).setCell (p := ⟨g2, 11, none⟩) hg2a _) 1)
      clear hrd hbl k0 k1 k2 k3 k4 k5 k6 k7 k8 k9 k10 k11 z0 z1 z2 z3 z4 z5 z6 z7 z8 z9 z10 z11 hHeld
      generalize ((((((((((((wr.setCell ⟨g2, 0, none⟩ (.int .i64 1)).setCell ⟨g2, 1, none⟩ (.int .i64 0)).setCell ⟨g2, 2, none⟩ (.int .i64 5)).setCell ⟨g2, 3, none⟩ (.int .i64 (lvG G2 0 3))).setCell ⟨g2, 4, none⟩ (.int .i64 (lvG G2 0 4))).setCell ⟨g2, 5, none⟩ (.int .i64 (lvG G2 0 5))).setCell ⟨g2, 6, none⟩ (.int .i64 (lvG G2 0 6))).setCell ⟨g2, 7, none⟩ (.int .i64 (wi turn 0 3599))).setCell ⟨g2, 8, none⟩ (.int .i64 0)).setCell ⟨g2, 9, none⟩ (.int .i64 0)).setCell ⟨g2, 10, none⟩ (.string ⟨#[]⟩)).setCell ⟨g2, 11, none⟩ (.string ⟨#[]⟩)).drew = w5 at *
      have hok := hd_ok (t := wi turn 0 3599) Hraw.out hm10 htb.1 (by omega)
      have hok2 := ug_ok (t := wi turn 0 3599) Hraw.out hm10 htb.1 (by omega)
      have Hun : Hid (Calls Tryd.prog 16 #[.slice (some ⟨g2, 0, none⟩) (p + 1) c2, .int .i64 1] w5 (UgPost (p + 1) (hdG G2 (wi turn 0 3599)) (hdT T2) 0 w5)) :=
        ungroup_ok (some ⟨g2, 0, none⟩) (p + 1) c2 0 (hdG G2 (wi turn 0 3599)) (hdT T2) w5 (Hq.out.below hbz) hok hz hc2 (by omega) rfl hok2
      have Hco := hide (fun (j : Nat) (hj : j + 1 < p + 1) wx (qx : TabQ wx) (rx : RdF wx (some ⟨g2, 0, none⟩) (p + 1) 12 (shV (hdG G2 (wi turn 0 3599)) (hdT T2))) =>
        Corners_ok (some ⟨g2, 0, none⟩) (p + 1) c2 (j + 1) (hdG G2 (wi turn 0 3599)) (hdT T2) _ _ (ugG (hdG G2 (wi turn 0 3599)) 0 j 0) wx qx hok rx hc2 hj rfl (corners_l Hraw.out hm10 hj (by omega)))
      have Hcu := hide (fun (A6 : Option Addr) (c6 : Nat) (hc6 : p ≤ c6) (j : Nat) (hj : j + 1 < p + 1) wx (qx : TabQ wx) (rx : RdF wx A6 p 12 (shV (ugG (hdG G2 (wi turn 0 3599)) 0) (ugT (hdT T2) 0))) =>
        Corners_ok A6 p c6 j (ugG (hdG G2 (wi turn 0 3599)) 0) (ugT (hdT T2) 0) _ _ (ugG (hdG G2 (wi turn 0 3599)) 0 j 0) wx qx hok2 rx hc6 (by omega) rfl (corners_u Hraw.out hm10 hj))
      have Hst := hide (fun (j : Nat) (hj : j + 1 < p + 1) (i : Nat) => And.intro (stays (t := wi turn 0 3599) Hraw.out hm10 hj i) (lp_small (t := wi turn 0 3599) Hraw.out hm10 hj i))
      clear hok hok2
      generalize hdG G2 (wi turn 0 3599) = L at *
      generalize hdT T2 = LT at *
      go_wp2_with fail
      refine Hun.out.mono ?_
      rintro e w6 ⟨A6, c6, rfl, hown6, hb6⟩
      simp only [Nat.add_sub_cancel] at hown6 ⊢
      have hc6 := (own_cap hown6).1
      have hru := RdF.of_own hown6
      have hrl := hz.below hb6
      have hbl6 := hbz.trans (hb6.mono hbz.size)
      clear hown6 hz hb6 hbz Hun
      go_upto_region 19 with fail
      go_wp2_with fail
      go_loopw [88] (fun a wr => ∃ j : Nat, j ≤ p ∧ a = .int .i64 j ∧ Below w6.heap.size w6 wr) (fun a _ => p - (intOf a).toNat)
      case atStart => exact ⟨0, by omega, rfl, Below.refl _ _⟩
      case round =>
        obtain ⟨j, hj, rfl, hb7⟩ := hrel
        obtain ⟨wo, rfl⟩ : ∃ wo : World, wo = wr := ⟨_, rfl⟩
        have hbl7 := hbl6.trans (hb7.mono hbl6.size)
        by_cases hlt : j < p
        · obtain ⟨b6, off6, rfl, k0, k1, k2, k3, k4, k5, k6, k7, k8, k9, k10, k11⟩ := cells12 (hru.below hb7) hlt
          have hst := fun i => Hst.out j (by omega) i
          go_upto_region 22 with fail
          have bx : Blk (wo.alloc (.cells (shC (ugG L 0) (ugT LT 0) j) 23)) wo.heap.size 23 (shC (ugG L 0) (ugT LT 0) j) := Blk.new wo _ _
          have hb8 := hb7.alloc hb7.size (.cells (shC (ugG L 0) (ugT LT 0) j) 23)
          unfold shC at bx hb8
          clear k0 k1 k2 k3 k4 k5 k6 k7 k8 k9 k10 k11
          generalize wo.alloc (.cells #[.int .i64 (ugG L 0 j 0), .int .i64 (ugG L 0 j 1), .int .i64 (ugG L 0 j 2), .int .i64 (ugG L 0 j 3), .int .i64 (ugG L 0 j 4), .int .i64 (ugG L 0 j 5), .int .i64 (ugG L 0 j 6), .int .i64 (ugG L 0 j 7), .int .i64 (ugG L 0 j 8), .int .i64 (ugG L 0 j 9), .string (ugT LT 0 j 10), .string (ugT LT 0 j 11)] 23) = w8 at *
          generalize wo.heap.size = g9 at *
          have m0 : w8.cell? ⟨g9, 0, none⟩ = some (.int .i64 (ugG L 0 j 0)) := bx.cell 0
          have hbl8 := hbl6.trans (hb8.mono hbl6.size)
          go_wp2_with fail
          refine (Hco.out j (by omega) w8 (Hq.out.below hbl8) (hrl.below hb8)).mono ?_
          rintro e w9 ⟨g10, rfl, hg10, bP, hb9⟩
          have bx9 := bx.below hb9 bx.lt
          have hb9' := hb8.trans (hb9.mono hb8.size)
          have hbl9 := hbl6.trans (hb9'.mono hbl6.size)
          clear m0 bx hb8 hbl8 hb7 hbl7
          have m0 : w9.cell? ⟨g9, 0, none⟩ = some (.int .i64 (ugG L 0 j 0)) := bx9.cell 0
          go_wp2_with fail
          refine (Hcu.out (some ⟨b6, off6, none⟩) c6 hc6 j (by omega) w9 (Hq.out.below hbl9) (hru.below hb9')).mono ?_
          rintro e w10 ⟨g12, rfl, hg12, bQ, hb10⟩
          have bP10 := bP.below hb10 bP.lt
          have hb10' := hb9'.trans (hb10.mono hb9'.size)
          clear m0 bx9 bP hb9 hb9' hbl9 hb10 hg10 hg12
          generalize lPX L (j + 1) = PX at *
          generalize lPY L (j + 1) = PY at *
          generalize ctX (ugG L 0) j = QX at *
          generalize ctY (ugG L 0) j = QY at *
          have Hst2 := hide hst
          clear hst
          go_wp2_with fail
          go_loopw [120] (fun a wr => ∃ i : Nat, i ≤ 4 ∧ a = .int .i64 i ∧ Blk wr g10 54 (ptC4 PX PY) ∧ Blk wr g12 54 (ptC4 QX QY) ∧ Below w6.heap.size w6 wr) (fun a _ => 4 - (intOf a).toNat)
          case atStart => exact ⟨0, by omega, rfl, bP10, bQ, hb10'⟩
          case round =>
            clear bP10 bQ hb10'
            obtain ⟨i, hi, rfl, bP, bQ, hb⟩ := hrel
            by_cases hi4 : i < 4
            · obtain ⟨b', off', hA, hcP⟩ := (pts_rdF bP).at_ hi4
              injection hA with hA
              injection hA with hA1 hA2
              subst hA1 hA2
              obtain ⟨b', off', hA, hcQ⟩ := (pts_rdF bQ).at_ hi4
              injection hA with hA
              injection hA with hA1 hA2
              subst hA1 hA2
              have k0 : wr.cell? ⟨g10, i * 2, none⟩ = some (.int .i64 (PX i)) := by simpa [ptF] using hcP 0 (by omega)
              have k1 : wr.cell? ⟨g10, i * 2 + 1, none⟩ = some (.int .i64 (PY i)) := by simpa [ptF] using hcP 1 (by omega)
              have k2 : wr.cell? ⟨g12, i * 2, none⟩ = some (.int .i64 (QX i)) := by simpa [ptF] using hcQ 0 (by omega)
              have k3 : wr.cell? ⟨g12, i * 2 + 1, none⟩ = some (.int .i64 (QY i)) := by simpa [ptF] using hcQ 1 (by omega)
              obtain ⟨⟨⟨s1, s2⟩, ⟨s3, s4⟩⟩, ⟨s5, s6⟩⟩ := Hst2.out i
              obtain ⟨dx, hdx⟩ : ∃ d, d = PX i - QX i := ⟨_, rfl⟩
              have x0 : IntKind.i64.wrap (PX i - QX i) = dx := by rw [hdx]; exact IntWalk.i64_in _ (by omega)
              obtain ⟨dy, hdy⟩ : ∃ d, d = PY i - QY i := ⟨_, rfl⟩
              have y0 : IntKind.i64.wrap (PY i - QY i) = dy := by rw [hdy]; exact IntWalk.i64_in _ (by omega)
              rw [← hdx] at s1 s2
              rw [← hdy] at s3 s4
              have BP := hide bP
              have BQ := hide bQ
              have HB := hide hb
              clear hdx hdy hcP hcQ bP bQ hb s5 s6
              go_upto_region 29 with fail
              go_quiet (fail)
              have hmax : ∀ wx : World, (Builtin.max_ #[3, 3, 3, 3] 3 #[.int .i64 dx, .int .i64 (-dx), .int .i64 dy, .int .i64 (-dy)]).run Tryd.prog wx = .ok (.int .i64 (if -dy > (if dy > (if -dx > dx then -dx else dx) then dy else (if -dx > dx then -dx else dx)) then -dy else (if dy > (if -dx > dx then -dx else dx) then dy else (if -dx > dx then -dx else dx)))) wx := fun _ => rfl
              have hmx : (if -dy > (if dy > (if -dx > dx then -dx else dx) then dy else (if -dx > dx then -dx else dx)) then -dy else (if dy > (if -dx > dx then -dx else dx) then dy else (if -dx > dx then -dx else dx))) ≤ 6 := by (repeat' split) <;> omega
              generalize (if -dy > (if dy > (if -dx > dx then -dx else dx) then dy else (if -dx > dx then -dx else dx)) then -dy else (if dy > (if -dx > dx then -dx else dx) then dy else (if -dx > dx then -dx else dx))) = mx at *
              go_wp2_with fail
              exact ⟨⟨i + 1, by omega, by simp, BP.out.drewN _, BQ.out.drewN _, below_drewN HB.out _⟩, by simp only [intOf]; omega⟩
            · obtain rfl : i = 4 := by omega
              go_wp2_with fail
              exact ⟨⟨j + 1, by omega, by simp, hb⟩, by simp only [intOf]; omega⟩
        · have hjp : p = j := by omega
          subst hjp
          clear hlt hj
          go_wp2_with fail
          go_ret
          exact ⟨rfl, hbl7⟩

theorem walked : WalkedL Tryd.checked.prog 6 Tryd.f6 [("chancery/shape.quarter", Rows.laid_chancery_shape_quarter)] := by
  intro H enc W args ds ps hval hA hL
  have ht : TabQ W := tabQ_of ⟨_, _, rfl, rfl⟩ (by kernel_rfl) hL
  rw [Tryd.params6] at hA hval
  obtain ⟨v0, l0, d0, m0, p0, q0, e0, _, h0, k0⟩ := Frm.trodAll_cons hA
  obtain ⟨v1, l1, d1, m1, p1, q1, rfl, _, h1, k1⟩ := Frm.trodAll_cons k0
  obtain rfl := Frm.trodAll_nil k1
  obtain rfl : args = #[v0, v1] := by cases args; simp_all
  obtain ⟨A, n, c, G, T, rfl, hn, hr, hwf⟩ := shapes_arg (hval 0 _ _ rfl rfl) h0
  obtain ⟨x, rfl, _, _, wx⟩ := open_int Tryd.underlying3 (hval 1 _ _ rfl rfl) h1
  exact walk A n c G T x W ht hr hn hwf wx

def laidL : List (String × DataW Unit) := [("chancery/shape.quarter", Rows.laid_chancery_shape_quarter)]
theorem door_met (os : Os) (args : Array Value) : laidMetH Tryd.prog laidL ((World.doorLaid Tryd.prog 400 os).forCall (fun _ _ => 0) ⟨#[], args, []⟩).memory :=
  laidMetH_of_parts3 (fuel := 8) (laidMet_of_run' 8 (by kernel_rfl) (by kernel_rfl)) (by kernel_rfl) (by kernel_rfl)

set_option maxRecDepth 100000 in
theorem lifted (os : Os) (started : os.Started) (H : Type) (enc : TypeId × Value → H) :
    ReturnsInHanded {} Tryd.checked os 6 .any (fun w args => (Rows.shapeUngroupTurnedSpec.pre enc Tryd.prog Tryd.f6 [] false w args ∧ laidMetH Tryd.prog laidL w) ∧ sizedMet enc Tryd.prog Tryd.f6 (OpenSpec.ofChange Rows.shapeUngroupTurnedSpec) false w args) (Rows.shapeUngroupTurnedSpec.post enc Tryd.prog Tryd.f6 false true false false) :=
  law_lift_laid (C := Tryd.checked) (tb := 4) (laid := laidL) (by kernel_rfl) started (by kernel_rfl) Tryd.func6 rfl
    (fun ds h => match ds, h with | [_, _], _ => rfl) rfl Tryd.underlying4 (by kernel_rfl) (by kernel_rfl)
    (ChangeSpec.witness_shaped (enc := enc) (C := Tryd.checked) (os := os) (X := fun w _ => laidMetH Tryd.prog laidL w) false (World.doorLaid Tryd.prog 400 os) #[.slice none 0 0, .int .i64 0] 8 rfl (World.shaped_of_RefB (by kernel_rfl) (by kernel_rfl)) (by kernel_rfl) (by kernel_rfl) (by kernel_rfl) (door_met os _))
    walked

theorem said : Rows.ShapeUngroupTurnedSaid :=
  OpenClaim.holds_of_wide 6 Tryd.f6 rfl rfl rfl rfl rfl rfl rfl ⟨rfl, rfl, rfl, rfl, rfl⟩ rfl rfl rfl rfl rfl (by kernel_rfl) Tryd.func6 (by kernel_rfl)
    (of_decide_eq_true (by kernel_rfl)) (by unfold Func.isWrapper; first | (rw [if_pos (by decide +kernel)]; kernel_rfl) | (rw [if_neg (by decide +kernel)]; exact ⟨rfl, rfl⟩))
    (fun os started H enc _ => lifted os started H enc)

/-- THE STATEMENT: the tied card -/
theorem proved : Rows.ShapeUngroupTurnedCardSaid :=
  Claim7.holds_tied_plain_at .later [] [.data] true (true, "0033d5c4f99aef9b82c08da9c1357e50926af6b85babfc5968ccf75c8792d8fc") false
    said (fun _ h => by cases h) (by kernel_rfl) (fun _ h => by cases h) shapeUngroupTurned_row_tie rfl ⟨rfl, rfl⟩ (by kernel_rfl) rfl
    (fun f fn hf hfn => by
      obtain rfl : f = 6 := Option.some.inj ((show Tryd.prog.funcNamed "chancery/chancerykeep3.ShapeUngroupTurned" = some 6 by kernel_rfl).symm.trans hf) |>.symm
      obtain rfl : fn = Tryd.f6 := (Option.some.inj (Tryd.func6.symm.trans hfn)).symm
      exact ⟨by kernel_rfl, fun j t ht => by
        have hm : t ∈ Tryd.f6.params.toList := by simpa using Array.mem_of_getElem? ht
        have hall : (Tryd.f6.params.toList.all fun u => !Tryd.prog.wantsStandIn u) = true := by kernel_rfl
        exact (show Tryd.prog.wantsStandIn t = false by simpa using List.all_eq_true.1 hall t hm)⟩)
    (by kernel_rfl)
#print axioms proved
end Go.Proofs.YtnmikhmbnpiadaaDoor.ShapeUngroupTurnedDone
