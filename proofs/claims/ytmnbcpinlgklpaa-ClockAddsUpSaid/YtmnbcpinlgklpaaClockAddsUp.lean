/- PROVED HERE: whatever the events and the two times, chancerykeep3.ClockAddsUp returns true, and its arguments read behind the call as before. No condition beside those of the given row. -/
import Derived.Test.YtmnbcpinlgklpaaRows
import Derived.Test.YtmnbcpinlgklpaaClockLaw
import Derived.Test.YtmnbcpinlgklpaaArgs
namespace Go.Proofs.Ytmnbcpinlgklpaa.ClockAddsUpDone
open Go.RowKit Go.Frm Go.ChangeShapes Go.WideShapes Go.ChangeAt Clk Wi

def oneE : Evs := ⟨1, fun _ => 0, fun _ => 5, fun _ => 0⟩
theorem ve_one : VE oneE := ⟨by decide, ⟨fun i _ => by show (0 : Int) ≤ 5; omega, fun i j _ _ => Int.le_refl _⟩, fun i _ => by show (5 : Int) ≤ 10000000; omega, fun i hi => by
  have : i = 0 := by have : i < 1 := hi; omega
  subst this
  exact .inl ⟨rfl, rfl, rfl⟩⟩

set_option maxRecDepth 100000 in
set_option maxHeartbeats 2000000 in
theorem clocked_ok (w : World) : Calls Try.prog 24 #[] w fun e w' => e = .returned (.bool true) ∧ Below w.heap.size w w' := by
  go_enter Try.func24, Try.ntmps24
  go_wp2_with fail
  have ho : (w.alloc (.cells #[.int .i64 0, .int .i64 5, .int .i64 0] 70)).ownsRow 0 70 3 (.slice (some ⟨w.heap.size, 0, none⟩) oneE.N 1) oneE.N (rowF oneE.N 3 (evf oneE)) :=
    World.ownsRow_lit (base := 0) (size := 3) w #[.int .i64 0, .int .i64 5, .int .i64 0] 1 (by omega) (by decide) rfl
  have hbel : Below w.heap.size w (w.alloc (.cells #[.int .i64 0, .int .i64 5, .int .i64 0] 70)) := (Below.refl _ _).alloc (Nat.le_refl _) _
  generalize w.alloc (.cells #[.int .i64 0, .int .i64 5, .int .i64 0] 70) = w0 at *
  refine (report_ok oneE _ _ 0 9 _ ve_one (by decide) ho (by omega) (by omega)).mono ?_
  rintro e w1 ⟨A, c, rfl, _, hbel1⟩
  rw [show (rep oneE 9).run = true from by decide, show (rep oneE 9).tot = 4 from by decide]
  go_wp2_with fail
  go_ret
  exact ⟨rfl, (hbel.trans (hbel1.mono hbel.size)).alloc (by have := hbel.size; have := hbel1.size; omega) _⟩

set_option maxRecDepth 100000 in
set_option maxHeartbeats 4000000 in
theorem walk (A0 : Option Addr) (n0 c0 : Nat) (F : Nat → Nat → Int) (x y : Int) (w : World) (hn : n0 ≤ 9223372036854775807) (hr : RdF w A0 n0 3 (fun i j => .int .i64 (F i j))) (hwf : ∀ i j, i < n0 → j < 3 → (Lit.int .i64 (F i j)).wf = true)
    (wx : (Lit.int .i64 x).wf = true) (wy : (Lit.int .i64 y).wf = true) :
    Calls Try.prog 7 #[.slice A0 n0 c0, .int .i64 x, .int .i64 y] w fun e w' => e = .returned (.bool true) ∧ Below w.heap.size w w' := by
  have Hwf := hide hwf
  clear hwf
  go_enter Try.func7, Try.ntmps7
  go_wp2_with fail
  refine (clocked_ok _).mono ?_
  rintro e w1 ⟨rfl, hbel1⟩
  have hr1 := hr.below hbel1
  go_wp2_with fail
  refine (events_ok A0 n0 c0 F w1 hn hr1 Hwf.out).mono ?_
  rintro e w2 ⟨E, A, c, rfl, hve, hN, ho, hbel2⟩
  have hbelA := hbel1.trans (hbel2.mono hbel1.size)
  go_wp2_with fail
  refine (within_any x _ _ _ wx (by omega) (by omega) (by omega)).mono ?_
  rintro e w3 ⟨rfl, rfl⟩
  go_wp2_with fail
  refine (within_any y _ _ _ wy (by omega) (by omega) (by omega)).mono ?_
  rintro e w3 ⟨rfl, rfl⟩
  obtain ⟨t1, t2⟩ := wi_bd x (show (0 : Int) ≤ 7000 by omega)
  obtain ⟨l1, l2⟩ := wi_bd y (show (0 : Int) ≤ 3000 by omega)
  generalize wi x 0 7000 = t at *
  generalize wi y 0 3000 = later at *
  clear hr hr1 Hwf hbel1 hbel2 wx wy
  have Hve := hide hve
  have hmono := rep_mono hve.srt t1 (show t ≤ t + later by omega)
  have hgt := good_rep hve.srt t1
  have hgs := good_rep hve.srt (show 0 ≤ t + later by omega)
  clear hve
  go_wp2_with fail
  refine (report_ok E A c _ t _ Hve.out (by omega) ho t1 (by omega)).mono ?_
  rintro e w4 ⟨Ar, cr, rfl, hor, hbel4⟩
  have ho4 := own_below ho hbel4
  have hbelB := hbelA.trans (hbel4.mono hbelA.size)
  go_wp2_with fail
  have ho5 := ho4.alloc (.cells #[.bool (rep E t).run, .int .i64 (rep E t).tot, .int .i64 (rep E t).sl, .slice Ar (rep E t).n cr] 66)
  have hor5 := hor.alloc (.cells #[.bool (rep E t).run, .int .i64 (rep E t).tot, .int .i64 (rep E t).sl, .slice Ar (rep E t).n cr] 66)
  have hb5 := Blk.new w4 66 #[.bool (rep E t).run, .int .i64 (rep E t).tot, .int .i64 (rep E t).sl, .slice Ar (rep E t).n cr]
  have hbelC := hbelB.alloc hbelB.size (.cells #[.bool (rep E t).run, .int .i64 (rep E t).tot, .int .i64 (rep E t).sl, .slice Ar (rep E t).n cr] 66)
  generalize w4.alloc (.cells #[.bool (rep E t).run, .int .i64 (rep E t).tot, .int .i64 (rep E t).sl, .slice Ar (rep E t).n cr] 66) = w5 at *
  refine (report_ok E A c _ (t + later) _ Hve.out (by omega) ho5 (by omega) (by omega)).mono ?_
  rintro e w6 ⟨As, cs, rfl, _, hbel6⟩
  have ho6 := own_below ho5 hbel6
  have hor6 := own_below hor5 hbel6
  have hb6 := hb5.below hbel6 hb5.lt
  have hbelD := hbelC.trans (hbel6.mono hbelC.size)
  have r1 : w6.cell? ⟨w4.heap.size, 1, none⟩ = some (.int .i64 (rep E t).tot) := hb6.cell 1
  have r3 : w6.cell? ⟨w4.heap.size, 3, none⟩ = some (.slice Ar (rep E t).n cr) := hb6.cell 3
  have hlt4 : w4.heap.size < w6.heap.size := hb6.lt
  have hne4 : w4.heap.size ≠ w6.heap.size := by omega
  have g0 := hgt.t0
  have g1 := hgt.t1
  have g2 := hgt.nk
  have g3 := hgs.t0
  have g4 := hgs.t1
  have g5 := hgs.nk
  obtain ⟨m1, m2, m3⟩ := hmono
  have d1 : decide ((rep E (t + later)).tot < (rep E t).tot) = false := by simp; omega
  have d2 : decide ((rep E t).tot + later < (rep E (t + later)).tot) = false := by simp; omega
  have d3 : decide ((rep E (t + later)).n < (rep E t).n) = false := by simp; omega
  clear m1 m2 m3
  go_upto_region 8 with fail
  have ho7 := ho6.alloc (.cells #[.bool (rep E (t + later)).run, .int .i64 (rep E (t + later)).tot, .int .i64 (rep E (t + later)).sl, .slice As (rep E (t + later)).n cs] 66)
  have hor7 := hor6.alloc (.cells #[.bool (rep E (t + later)).run, .int .i64 (rep E (t + later)).tot, .int .i64 (rep E (t + later)).sl, .slice As (rep E (t + later)).n cs] 66)
  have hb7 := hb6.alloc (.cells #[.bool (rep E (t + later)).run, .int .i64 (rep E (t + later)).tot, .int .i64 (rep E (t + later)).sl, .slice As (rep E (t + later)).n cs] 66)
  have hbelE := hbelD.alloc hbelD.size (.cells #[.bool (rep E (t + later)).run, .int .i64 (rep E (t + later)).tot, .int .i64 (rep E (t + later)).sl, .slice As (rep E (t + later)).n cs] 66)
  clear hb6 hbelD hor6 ho6 r1 r3 hlt4 hne4 hb5 hbelC hbel6 hor5 ho5 hbelB hbel4 ho4 hor hbelA ho
  generalize w6.alloc (.cells #[.bool (rep E (t + later)).run, .int .i64 (rep E (t + later)).tot, .int .i64 (rep E (t + later)).sl, .slice As (rep E (t + later)).n cs] 66) = w7 at *
  generalize w4.heap.size = G at *
  have hlt7 := hb7.lt
  go_upto_block 0 with fail
  go_cut [11] (fun a wc => ∃ x : Int, a = .int .i64 x ∧ ((rep E t).n = 0 ∨ x = dist (rep E t)) ∧ -1000000 ≤ x ∧ x ≤ 1000000 ∧ Below w7.heap.size w7 wc)
  case first =>
    go_wp2_with fail
    go_loopw [11, 76] (fun a i wr => ∃ k : Nat, k ≤ E.N ∧ i = .int .i64 k ∧ a = .int .i64 0 ∧ (∀ j, j < k → ¬(E.ek j = 2 ∧ E.ea j ≤ t)) ∧ Below w7.heap.size w7 wr) (fun _ i _ => E.N - (intOf i).toNat)
    case atStart => exact ⟨0, by omega, rfl, rfl, fun j hj => by omega, Below.refl _ _⟩
    case round =>
      obtain ⟨k, hk, rfl, rfl, hno, hbel⟩ := hrel
      have Hno := hide hno
      clear hno
      have hsz := hbel.size
      by_cases hlt : k < E.N
      · have hor := own_below ho7 hbel
        obtain ⟨b, off, rfl, hc⟩ := (RdF.of_own hor).at_ hlt
        have c0 : wr.cell? ⟨b, off + k * 3, none⟩ = some (.int .i64 (E.ek k)) := hc 0 (by omega)
        have c1 : wr.cell? ⟨b, off + k * 3 + 1, none⟩ = some (.int .i64 (E.ea k)) := hc 1 (by omega)
        have c2 : wr.cell? ⟨b, off + k * 3 + 2, none⟩ = some (.int .i64 (E.es k)) := hc 2 (by omega)
        clear hc
        by_cases hq : E.ek k = 2
        · by_cases hle : E.ea k ≤ t
          · rw [hq] at c0
            have p0 := Hve.out.srt.pos k hlt
            have hdist := dist_two Hve.out.srt hlt hq hle (fun j hj he => Hno.out j hj ⟨he, Int.le_trans (Hve.out.srt.mono j k (by omega) hlt) hle⟩)
            have hgo := good_rep Hve.out.srt p0
            have hoa := hor.alloc (.cells #[.int .i64 2, .int .i64 (E.ea k), .int .i64 (E.es k)] 70)
            have hbela := hbel.alloc hsz (.cells #[.int .i64 2, .int .i64 (E.ea k), .int .i64 (E.es k)] 70)
            have Hdist := hide hdist
            have Hgo := hide hgo
            clear hdist hgo
            go_wp2_with fail
            refine (report_ok E (some ⟨b, off, none⟩) c _ (E.ea k) _ Hve.out (by omega) hoa p0 (by omega)).mono ?_
            rintro e w8 ⟨A8, c8, rfl, ho8, hbel8⟩
            have hbel9 := hbela.trans (hbel8.mono hbela.size)
            generalize rep E (E.ea k) = s at *
            have s0 := Hgo.out.t0
            have s1 := Hgo.out.t1
            have s2 := Hgo.out.nk
            have ho9 := ho8.alloc (.cells #[.bool s.run, .int .i64 s.tot, .int .i64 s.sl, .slice A8 s.n c8] 66)
            have hb9 := Blk.new w8 66 #[.bool s.run, .int .i64 s.tot, .int .i64 s.sl, .slice A8 s.n c8]
            have hbel10 := hbel9.alloc hbel9.size (.cells #[.bool s.run, .int .i64 s.tot, .int .i64 s.sl, .slice A8 s.n c8] 66)
            have hsz9 := hbel9.size
            clear hbel8 hbela hoa hor c0 c1 c2
            by_cases hn0 : s.n = 0
            · have hd : dist s = s.tot := by unfold dist; rw [hn0]; simp [fsum]
              rw [hn0] at ho9 hb9 hbel10 ⊢
              go_wp2_with fail
              go_meet
              exact ⟨s.tot, rfl, .inr (by rw [Hdist.out, hd]), by omega, by omega, hbel10⟩
            · have hd : decide (0 < s.n) = true := by simp; omega
              have hd' : decide ((0 : Int) < (s.n : Int)) = true := by simp; omega
              go_wp2_with fail
              have hsz10 := hbel10.size
              generalize w8.alloc (.cells #[.bool s.run, .int .i64 s.tot, .int .i64 s.sl, .slice A8 s.n c8] 66) = w10 at *
              clear hbel9 ho8
              go_loopw [11, 107] (fun a i wx => ∃ j : Nat, j ≤ s.n ∧ i = .int .i64 j ∧ a = .int .i64 (s.tot - fsum s.tm j) ∧ Below w10.heap.size w10 wx) (fun _ i _ => s.n - (intOf i).toNat)
              case atStart => exact ⟨0, by omega, rfl, by simp [fsum], Below.refl _ _⟩
              case round =>
                obtain ⟨j, hj, rfl, rfl, hbelx⟩ := hrel
                have hszx := hbelx.size
                have f0 : 0 ≤ fsum s.tm j := fsum_nonneg (fun i hi => (Hgo.out.tm0 i (by omega)).1)
                have f1 : fsum s.tm j ≤ j * 7000 := by
                  have := fsum_le (F := s.tm) (G := fun _ => 7000) (n := j) (fun i hi => by have := (Hgo.out.tm0 i (by omega)).2; omega)
                  rw [fsum_const] at this
                  exact this
                by_cases hlt2 : j < s.n
                · obtain ⟨b8, off8, rfl, hc8⟩ := (RdF.of_own (own_below ho9 hbelx)).at_ hlt2
                  have z0 : wr.cell? ⟨b8, off8 + j * 3, none⟩ = some (.int .i64 (s.sn j)) := hc8 0 (by omega)
                  have z1 : wr.cell? ⟨b8, off8 + j * 3 + 1, none⟩ = some (.int .i64 (s.tm j)) := hc8 1 (by omega)
                  have z2 : wr.cell? ⟨b8, off8 + j * 3 + 2, none⟩ = some (.int .i64 (s.ct j)) := hc8 2 (by omega)
                  clear hc8
                  have f2 := Hgo.out.tm0 j hlt2
                  go_wp2_with fail
                  go_roundw
                  case rel => exact ⟨j + 1, by omega, by go_num, val_int (by rw [fsum_succ]; omega), hbelx.alloc hszx _⟩
                  case measure => simp [intOf]; omega
                · obtain rfl : j = s.n := by omega
                  go_wp2_with fail
                  go_meet
                  exact ⟨_, rfl, .inr (by rw [Hdist.out]; rfl), by omega, by omega, hbel10.trans (hbelx.mono hsz10)⟩
          · rw [hq] at c0
            have hd : decide (E.ea k ≤ t) = false := by simp; omega
            go_wp2_with fail
            go_roundw
            case rel =>
              refine ⟨k + 1, by omega, by go_num, rfl, fun j hj hc => ?_, hbel.alloc hsz _⟩
              rcases Nat.lt_succ_iff_lt_or_eq.1 hj with h | h
              · exact Hno.out j h hc
              · subst h; omega
            case measure => simp [intOf]; omega
        · have hd : (E.ek k == 2) = false := by simpa using hq
          go_wp2_with fail
          go_roundw
          case rel =>
            refine ⟨k + 1, by omega, by go_num, rfl, fun j hj hc => ?_, hbel.alloc hsz _⟩
            rcases Nat.lt_succ_iff_lt_or_eq.1 hj with h | h
            · exact Hno.out j h hc
            · subst h; omega
          case measure => simp [intOf]; omega
      · obtain rfl : k = E.N := by omega
        go_wp2_with fail
        go_meet
        exact ⟨0, rfl, .inl (rep_none Hve.out.srt (fun j hj he => by have := Hno.out j hj; omega)), by omega, by omega, hbel⟩
  case rest =>
    obtain ⟨a', rfl, ha, a1, a2, hbelc⟩ := hcut
    have Ha := hide ha
    clear ha
    have horc := own_below hor7 hbelc
    have hbc := hb7.below hbelc hlt7
    have hbelF := hbelE.trans (hbelc.mono hbelE.size)
    have r1 : wc.cell? ⟨G, 1, none⟩ = some (.int .i64 (rep E t).tot) := hbc.cell 1
    have r3 : wc.cell? ⟨G, 3, none⟩ = some (.slice Ar (rep E t).n cr) := hbc.cell 3
    have hltc := hbc.lt
    have Hgt := hide hgt
    clear hgt hgs ho7 hor7 hb7 hbelE hlt7 d1 d2 d3
    go_wp2_with fail
    go_loopw [18, 121] (fun a i wr => ∃ j : Nat, j ≤ (rep E t).n ∧ i = .int .i64 j ∧ a = .int .i64 (a' + fsum (rep E t).tm j) ∧ Below wc.heap.size wc wr) (fun _ i _ => (rep E t).n - (intOf i).toNat)
    case atStart => exact ⟨0, by omega, rfl, by simp [fsum], Below.refl _ _⟩
    case round =>
      obtain ⟨j, hj, rfl, rfl, hbelx⟩ := hrel
      have hszx := hbelx.size
      have f0 : 0 ≤ fsum (rep E t).tm j := fsum_nonneg (fun i hi => (Hgt.out.tm0 i (by omega)).1)
      have f1 : fsum (rep E t).tm j ≤ j * 7000 := by
        have := fsum_le (F := (rep E t).tm) (G := fun _ => 7000) (n := j) (fun i hi => by have := (Hgt.out.tm0 i (by omega)).2; omega)
        rw [fsum_const] at this
        exact this
      by_cases hlt2 : j < (rep E t).n
      · obtain ⟨b8, off8, rfl, hc8⟩ := (RdF.of_own (own_below horc hbelx)).at_ hlt2
        have z0 : wr.cell? ⟨b8, off8 + j * 3, none⟩ = some (.int .i64 ((rep E t).sn j)) := hc8 0 (by omega)
        have z1 : wr.cell? ⟨b8, off8 + j * 3 + 1, none⟩ = some (.int .i64 ((rep E t).tm j)) := hc8 1 (by omega)
        have z2 : wr.cell? ⟨b8, off8 + j * 3 + 2, none⟩ = some (.int .i64 ((rep E t).ct j)) := hc8 2 (by omega)
        clear hc8
        have f2 := Hgt.out.tm0 j hlt2
        go_wp2_with fail
        go_roundw
        case rel => exact ⟨j + 1, by omega, by go_num, val_int (by rw [fsum_succ]; omega), hbelx.alloc hszx _⟩
        case measure => simp [intOf]; omega
      · obtain rfl : j = (rep E t).n := by omega
        have hbx := hbc.below hbelx hltc
        have q1 : wr.cell? ⟨G, 1, none⟩ = some (.int .i64 (rep E t).tot) := hbx.cell 1
        have q3 : wr.cell? ⟨G, 3, none⟩ = some (.slice Ar (rep E t).n cr) := hbx.cell 3
        by_cases hn0 : (rep E t).n = 0
        · have hd : ((((rep E t).n : Nat) : Int) == 0) = true := by simp; omega
          go_wp2_with fail
          go_ret
          exact ⟨rfl, hbelF.trans (hbelx.mono hbelF.size)⟩
        · have hd : ((((rep E t).n : Nat) : Int) == 0) = false := by simp; omega
          have hsum : (a' + fsum (rep E t).tm (rep E t).n == (rep E t).tot) = true := by
            rcases Ha.out with h | h
            · exact absurd h hn0
            · rw [h]; unfold dist; simp
          go_wp2_with fail
          go_ret
          exact ⟨rfl, hbelF.trans (hbelx.mono hbelF.size)⟩

theorem walked : Walked Try.checked.prog 7 Try.f7 := by
  intro H enc W args ds ps hval hA
  rw [Try.params7] at hA hval
  obtain ⟨v0, v1, v2, d0, d1, d2, p0, p1, p2, hargs, rfl, rfl, h0, h1, h2⟩ := trodAll_three hA
  obtain rfl : args = #[v0, v1, v2] := by cases args; simp_all
  obtain ⟨x, rfl, _, _, wx⟩ := open_int Try.underlying3 (hval 1 _ _ rfl rfl) h1
  obtain ⟨y, rfl, _, _, wy⟩ := open_int Try.underlying3 (hval 2 _ _ rfl rfl) h2
  obtain ⟨a0, l0, k0, rfl⟩ := okWide_slice Try.underlying62 (hval 0 _ _ rfl rfl)
  obtain ⟨fuel, h0⟩ := h0
  obtain ⟨A, n, c, F, hs, hn, hr, hwf⟩ := int_structs_trod (v := .slice a0 l0 k0) Try.underlying62 Try.underlying70 (by kernel_rfl) (by kernel_rfl) (by decide) (fun j f hj => by
    match j, hj with
    | 0, hj => cases hj; exact Try.underlying3
    | 1, hj => cases hj; exact Try.underlying3
    | 2, hj => cases hj; exact Try.underlying3) h0
  rw [hs]
  exact walk A n c F x y W hn hr hwf wx wy

theorem lifted (os : Os) (started : os.Started) (H : Type) (enc : TypeId × Value → H) :
    ReturnsInHanded {} Try.checked os 7 .any (Rows.clockAddsUpSpec.pre6 enc Try.prog Try.f7 Rows.clockAddsUpRow.domain false) (Rows.clockAddsUpSpec.post enc Try.prog Try.f7 false true false false) :=
  law_lift (C := Try.checked) (tb := 4) (by kernel_rfl) started (by kernel_rfl) Try.func7 rfl
    (fun ds h => match ds, h with | [_, _, _], _ => rfl) rfl Try.underlying4 (by kernel_rfl) (by kernel_rfl)
    (ChangeSpec.witness6 (enc := enc) (C := Try.checked) false ⟨#[], #[.slice none 0 0, .int .i64 0, .int .i64 0], []⟩ 8 (by kernel_rfl) (by kernel_rfl) (by kernel_rfl) (by kernel_rfl))
    walked

/-- THE STATEMENT -/
theorem proved : Rows.ClockAddsUpSaid :=
  OpenClaim.holds_of_wide 7 Try.f7 rfl rfl rfl rfl rfl rfl rfl ⟨rfl, rfl, rfl, rfl, rfl⟩ rfl rfl rfl rfl rfl (by kernel_rfl) Try.func7 (by kernel_rfl)
    (of_decide_eq_true (by kernel_rfl)) (by unfold Func.isWrapper; first | (rw [if_pos (by decide +kernel)]; kernel_rfl) | (rw [if_neg (by decide +kernel)]; exact ⟨rfl, rfl⟩))
    (fun os started H enc _ => lifted os started H enc)
#print axioms proved
end Go.Proofs.Ytmnbcpinlgklpaa.ClockAddsUpDone
