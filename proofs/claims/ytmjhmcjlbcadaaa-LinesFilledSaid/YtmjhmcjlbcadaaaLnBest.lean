/- The contract of (*work).best. -/
import Derived.Test.YtmjhmcjlbcadaaaLnState
import Derived.Deep.LoopGhost
namespace Go.Proofs.Ytmjhmcjlbcadaaa.Ln
open Go.RowKit Go.Frm

/-- what is remembered of a place, by key -/
def TB (P : Pts) (ws : List Int) (D : Int) (j q : Nat) : Pl := B P ws D j (q / 2) (q % 2 == 1)
def BestPost (P : Pts) (ws : List Int) (D : Int) (base wb kb b : Nat) (R : Nat → Option Nat) (p : Pl) (w : World) (e : Ending) (w' : World) : Prop :=
  ∃ R', e = .returned (plA p) ∧ Mem w' base wb kb b P.n ws.length (TB P ws D) R' ∧ Kept kb R R' w w'
theorem plan_info : (Try.prog.info? 56).map (fun i => (i.zero, i.size, i.bytes)) = some (some (.agg #[.bool false, .int .i64 0, .int .i64 0, .int .i64 0]), 4, 32) := by kernel_rfl
theorem make_row (L : Nat) (hL : L ≤ 1000) (wx : World) : (Instr.makeSlice 66 (.int .i64 (2 * (L : Int))) (.int .i64 (2 * (L : Int)))).run Try.prog wx = .ok (.slice (some ⟨wx.heap.size, 0, none⟩) (2 * L) (2 * L)) (wx.alloc (.cells (madeCells #[.bool false, .int .i64 0, .int .i64 0, .int .i64 0] (2 * L * 4)) 56)) := by
  obtain ⟨i, hi, hz, hs, hby⟩ := info_parts plan_info
  have h := run_make (P := Try.prog) (w := wx) 66 56 i _ Try.underlying66 hi hz .i64 .i64 (2 * (L : Int)) (2 * (L : Int)) (by omega) (Int.le_refl _) (by rw [hby]; omega) (by omega)
  rw [hs, show (2 * (L : Int)).toNat = 2 * L by omega] at h
  exact h
section
variable {w0 : World} {b wb kb : Nat} {P : Pts} {ws : List Int} {D : Int} {Ap Aw A2 A3 A4 A5 : Option Addr} {cp cw c2 c3 c4 c5 : Nat}
set_option maxRecDepth 100000 in
set_option maxHeartbeats 20000000 in
theorem best_step (h0 : Mk w0 b P ws D Ap Aw A2 A3 A4 A5 cp cw c2 c3 c4 c5) (hv : VP P) (hws : 0 < ws.length) (hw2 : ws.length ≤ 1000) (hww : ∀ x, x ∈ ws → 0 ≤ x ∧ x ≤ 400000) (hD : 0 ≤ D ∧ D ≤ 5000)
    (fr : Nat) (hfr : fr ≤ P.n) (k : Nat) (fl : Bool) (w : World) (R : Nat → Option Nat) (hk : k ≤ 100000) (hbl : Below w0.heap.size w0 w) (hm : Mem w w0.heap.size wb kb b P.n ws.length (TB P ws D) R)
    (ih : Hid (∀ fr', fr < fr' → fr' ≤ P.n → ∀ (k' : Nat) (fl' : Bool) (w' : World) (R' : Nat → Option Nat), k' ≤ 100000 → Below w0.heap.size w0 w' → Mem w' w0.heap.size wb kb b P.n ws.length (TB P ws D) R' →
      Calls Try.prog 17 #[.pointer (some ⟨wb, 0, none⟩), .int .i64 fr', .int .i64 k', .bool fl'] w' (BestPost P ws D w0.heap.size wb kb b R' (B P ws D fr' (min k' (ws.length - 1)) fl') w'))) :
    Calls Try.prog 17 #[.pointer (some ⟨wb, 0, none⟩), .int .i64 fr, .int .i64 k, .bool fl] w (BestPost P ws D w0.heap.size wb kb b R (B P ws D fr (min k (ws.length - 1)) fl) w) := by
  have few := hv.few
  have Hv := hide hv
  have Hww := hide hww
  have HD := hide hD
  have H0 := hide h0
  have hsz := hbl.size
  obtain ⟨kk, hkk⟩ : ∃ kk, kk = min k (ws.length - 1) := ⟨_, rfl⟩
  have hk1 : kk ≤ 1000 := by omega
  have hif : (if (ws.length : Int) - 1 < (k : Int) then (ws.length : Int) - 1 else (k : Int)) = (kk : Int) := by rw [hkk]; split <;> omega
  have q4 : IntKind.i64.wrap ((ws.length : Int) - 1) = (ws.length : Int) - 1 := IntWalk.i64_in _ (by omega)
  have hk2 : kk < ws.length := by omega
  rw [← hkk]
  have hb1 := (Below.refl w.heap.size w).alloc (Nat.le_refl _) (.cells #[.bool false, .int .i64 0, .int .i64 0, .int .i64 0] 56)
  have b8 := Blk.new w 56 #[.bool false, .int .i64 0, .int .i64 0, .int .i64 0]
  have ho8 : Out kb R w.heap.size := hm.out (Nat.le_refl _)
  have hk1w := (Kept.refl kb R w).below hb1
  have hm1 := hm.below hb1
  have hbl1 := hbl.trans (hb1.mono hbl.size)
  clear hv hww hD h0 hbl hm hkk hb1
  have hq := fun (wx : World) (a : Option Addr) (n c : Nat) => Lib.run_eql_slice_nil (P := Try.prog) wx 66 56 a n c 0 0 Try.underlying66
  go_enter Try.func17, Try.ntmps17
  go_upto_region 1 with fail
  generalize w.alloc (.cells #[.bool false, .int .i64 0, .int .i64 0, .int .i64 0] 56) = w1 at *
  generalize hg8 : w.heap.size = g8 at *
  have M1 := H0.out.below hbl1
  have q1 : w1.cell? ⟨b, 1, none⟩ = some (.slice Aw ws.length cw) := M1.blk.cell 1
  have q2 := hm1.c0
  have q3 := hm1.c1
  have k3 := hm1.ck hfr
  have hbb := M1.blk.lt
  have HB := hide (And.intro b8 (And.intro ho8 (And.intro hk1w (And.intro hm1 hbl1))))
  clear M1 b8 ho8 hk1w hm1 hbl1
  generalize hL : ws.length = L at *
  go_cut [2] (fun v wc => v = .int .i64 (kk : Int) ∧ w1 = wc)
  case first => as_aux_lemma =>
    go_wp2_with fail
    go_meet
    exact ⟨rfl, rfl⟩
  case rest =>
    obtain ⟨rfl, rfl⟩ := hcut
    clear hif
    go_upto_if 31 with fail
    go_cut [9] (fun v wc => v = .int .i64 ((2 * kk + if fl then 1 else 0 : Nat) : Int) ∧ w1 = wc)
    case first => as_aux_lemma =>
      cases fl with
      | true =>
        go_wp2_with fail
        go_meet
        exact ⟨by simp, rfl⟩
      | false =>
        go_wp2_with fail
        go_meet
        exact ⟨by simp, rfl⟩
    case rest =>
      obtain ⟨rfl, rfl⟩ := hcut
      obtain ⟨key, hkey⟩ : ∃ key, key = 2 * kk + if fl then 1 else 0 := ⟨_, rfl⟩
      have hkl : key < 2 * L := by rw [hkey]; split <;> omega
      have hT : TB P ws D fr key = B P ws D fr kk fl := by
        unfold TB
        cases fl with
        | true => rw [show key / 2 = kk by simp at hkey; omega, show key % 2 = 1 by simp at hkey; omega]; rfl
        | false => rw [show key / 2 = kk by simp at hkey; omega, show key % 2 = 0 by simp at hkey; omega]; rfl
      rw [← hkey]
      have HT := hide hT
      clear hT hkey
      go_upto_region 5 with fail
      go_cut [41] (fun v wc => v = .bool (R fr).isNone ∧ w1 = wc)
      case first => as_aux_lemma =>
        cases hR : R fr with
        | none =>
          rw [hR] at k3
          unfold rowVal at k3
          have HR := hide hR
          clear hR
          go_wp2_with fail
          go_meet
          exact ⟨by rw [HR.out]; rfl, rfl⟩
        | some g =>
          rw [hR] at k3
          unfold rowVal at k3
          have HR := hide hR
          clear hR
          go_wp2_with fail
          go_meet
          exact ⟨by rw [HR.out]; rfl, rfl⟩
      case rest =>
        obtain ⟨rfl, rfl⟩ := hcut
        go_upto_if 41 with fail
        go_cut [] (fun wc => ∃ R1 g, R1 fr = some g ∧ Blk wc g8 56 #[.bool false, .int .i64 0, .int .i64 0, .int .i64 0] ∧ Out kb R1 g8 ∧ Kept kb R R1 w wc ∧ Mem wc w0.heap.size wb kb b P.n L (TB P ws D) R1 ∧ Below w0.heap.size w0 wc)
        case first => as_aux_lemma =>
          cases hR : R fr with
          | some g =>
            have HR := hide hR
            clear hR
            go_wp2_with fail
            go_meet
            exact ⟨R, g, HR.out, HB.out⟩
          | none =>
            rw [hR] at k3
            unfold rowVal at k3
            have kf := HB.out.2.2.2.1.fk fr
            have HR := hide hR
            have hmk := make_row L hw2
            have q5 : IntKind.i64.wrap (2 * (L : Int)) = 2 * (L : Int) := IntWalk.i64_in _ (by omega)
            have i5 : (fr : Int) < (P.n : Int) + 1 := by omega
            have hba := (below_drewN (Below.refl w1.heap.size w1) 1).alloc (Nat.le_refl _) (.cells (madeCells #[.bool false, .int .i64 0, .int .i64 0, .int .i64 0] (2 * L * 4)) 56)
            clear hR
            go_upto_region 6 with fail
            refine wp_region_sink (S := fun w' : World => (w'.cell? ⟨wb, 0, none⟩ = some (.pointer (some ⟨b, 0, none⟩)) ∧ w'.cell? ⟨wb, 1, none⟩ = some (.slice (some ⟨kb, 0, none⟩) (P.n + 1) (P.n + 1)) ∧ w'.cell? ⟨b, 1, none⟩ = some (.slice Aw L cw)) ∧ (w'.cell? ⟨kb, fr, none⟩ = some (.slice none 0 0) ∧ w'.frozen? ⟨kb, fr, none⟩ = false)) 17 (by kernel_rfl) (by kernel_rfl) (by kernel_rfl) (by kernel_rfl) ?hSC (fun hHeld => ?_)
            case hSC => exact ⟨⟨q2, q3, q1⟩, ⟨k3, kf⟩⟩
            simp only [List.take_succ_cons, List.take_zero]
            refine wpAnyH_take (i := 0) (v := ?vCn0) rfl (by kernel_rfl) (by kernel_rfl) (by kernel_rfl) (fun _ _ _ h => h) (Or.inl ⟨by rfl, ?hyCn0⟩) (by assumption) ?_
            case hyCn0 => (intro w hSw; (try dsimp only at hSw); go_simp; try with_reducible rfl)
            try simp only [Act.put, List.getElem_toArray, List.getElem_cons_zero, List.setIfInBounds_toArray, List.set_cons_zero, List.set_cons_succ]
            refine wpAnyH_take (i := 1) (v := ?vCn1) rfl (by kernel_rfl) (by kernel_rfl) (by kernel_rfl) (fun _ _ _ h => h) (Or.inl ⟨by rfl, ?hyCn1⟩) (by assumption) ?_
            case hyCn1 => (intro w hSw; (try dsimp only at hSw); go_simp; try with_reducible rfl)
            try simp only [Act.put, List.getElem_toArray, List.getElem_cons_zero, List.getElem_cons_succ, List.setIfInBounds_toArray, List.set_cons_zero, List.set_cons_succ]
            refine wpAnyH_take (i := 2) (v := ?vCn2) rfl (by kernel_rfl) (by kernel_rfl) (by kernel_rfl) (fun _ _ _ h => h) (Or.inl ⟨by rfl, ?hyCn2⟩) (by assumption) ?_
            case hyCn2 => (intro w hSw; (try dsimp only at hSw); go_simp; try with_reducible rfl)
            try simp only [Act.put, List.getElem_toArray, List.getElem_cons_zero, List.getElem_cons_succ, List.setIfInBounds_toArray, List.set_cons_zero, List.set_cons_succ]
            refine wpAnyH_take (i := 3) (v := ?vCn3) rfl (by kernel_rfl) (by kernel_rfl) (by kernel_rfl) (fun _ _ _ h => h) (Or.inl ⟨by rfl, ?hyCn3⟩) (by assumption) ?_
            case hyCn3 => (intro w hSw; (try dsimp only at hSw); go_simp; try with_reducible rfl)
            try simp only [Act.put, List.getElem_toArray, List.getElem_cons_zero, List.getElem_cons_succ, List.setIfInBounds_toArray, List.set_cons_zero, List.set_cons_succ]
            refine wpAnyH_take (i := 4) (v := ?vCn4) rfl (by kernel_rfl) (by kernel_rfl) (by kernel_rfl) (fun _ _ _ h => h) (Or.inl ⟨by rfl, ?hyCn4⟩) (by assumption) ?_
            case hyCn4 => (intro w hSw; (try dsimp only at hSw); go_simp; try with_reducible rfl)
            try simp only [Act.put, List.getElem_toArray, List.getElem_cons_zero, List.getElem_cons_succ, List.setIfInBounds_toArray, List.set_cons_zero, List.set_cons_succ]
            refine wpAnyH_take (i := 5) (v := ?vCn5) rfl (by kernel_rfl) (by kernel_rfl) (by kernel_rfl) (fun _ _ _ h => h) (Or.inl ⟨by rfl, ?hyCn5⟩) (by assumption) ?_
            case hyCn5 => (intro w hSw; (try dsimp only at hSw); go_simp; try with_reducible rfl)
            try simp only [Act.put, List.getElem_toArray, List.getElem_cons_zero, List.getElem_cons_succ, List.setIfInBounds_toArray, List.set_cons_zero, List.set_cons_succ]
            refine wpAnyH_take (i := 6) (v := ?vCn6) rfl (by kernel_rfl) (by kernel_rfl) (by kernel_rfl) (fun _ _ _ h => h) (Or.inl ⟨by rfl, ?hyCn6⟩) (by assumption) ?_
            case hyCn6 => (intro w hSw; (try dsimp only at hSw); go_simp; try with_reducible rfl)
            try simp only [Act.put, List.getElem_toArray, List.getElem_cons_zero, List.getElem_cons_succ, List.setIfInBounds_toArray, List.set_cons_zero, List.set_cons_succ]
            refine wpAnyH_take (i := 7) (v := ?vCn7) rfl (by kernel_rfl) (by kernel_rfl) (by kernel_rfl) (fun _ _ _ h => h) (Or.inl ⟨by rfl, ?hyCn7⟩) (by assumption) ?_
            case hyCn7 => (intro w hSw; (try dsimp only at hSw); go_simp; try with_reducible rfl)
            try simp only [Act.put, List.getElem_toArray, List.getElem_cons_zero, List.getElem_cons_succ, List.setIfInBounds_toArray, List.set_cons_zero, List.set_cons_succ]
            refine wpAnyH_take (i := 8) (v := ?vCn8) rfl (by kernel_rfl) (by kernel_rfl) (by kernel_rfl) (fun _ _ _ h => h) (Or.inl ⟨by rfl, ?hyCn8⟩) (by assumption) ?_
            case hyCn8 => (intro w hSw; (try dsimp only at hSw); go_simp; try with_reducible rfl)
            try simp only [Act.put, List.getElem_toArray, List.getElem_cons_zero, List.getElem_cons_succ, List.setIfInBounds_toArray, List.set_cons_zero, List.set_cons_succ]
            refine wpAnyH_take (i := 9) (v := ?vCn9) rfl (by kernel_rfl) (by kernel_rfl) (by kernel_rfl) (fun _ _ _ h => h) (Or.inl ⟨by rfl, ?hyCn9⟩) (by assumption) ?_
            case hyCn9 => (intro w hSw; (try dsimp only at hSw); go_simp; try with_reducible rfl)
            try simp only [Act.put, List.getElem_toArray, List.getElem_cons_zero, List.getElem_cons_succ, List.setIfInBounds_toArray, List.set_cons_zero, List.set_cons_succ]
            refine wpAnyH_take (i := 10) (v := ?vCn10) rfl (by kernel_rfl) (by kernel_rfl) (by kernel_rfl) (fun _ _ _ h => h) (Or.inl ⟨by rfl, ?hyCn10⟩) (by assumption) ?_
            case hyCn10 => (intro w hSw; (try dsimp only at hSw); go_simp; try with_reducible rfl)
            try simp only [Act.put, List.getElem_toArray, List.getElem_cons_zero, List.getElem_cons_succ, List.setIfInBounds_toArray, List.set_cons_zero, List.set_cons_succ]
            refine wpAnyH_take (i := 11) (v := ?vCn11) rfl (by kernel_rfl) (by kernel_rfl) (by kernel_rfl) (fun _ _ _ h => h) (Or.inl ⟨by rfl, ?hyCn11⟩) (by assumption) ?_
            case hyCn11 => (intro w hSw; (try dsimp only at hSw); go_simp; try with_reducible rfl)
            try simp only [Act.put, List.getElem_toArray, List.getElem_cons_zero, List.getElem_cons_succ, List.setIfInBounds_toArray, List.set_cons_zero, List.set_cons_succ]
            refine wpAnyH_take (i := 12) (v := ?vCn12) rfl (by kernel_rfl) (by kernel_rfl) (by kernel_rfl) (fun _ _ _ h => h) (Or.inl ⟨by rfl, ?hyCn12⟩) (by assumption) ?_
            case hyCn12 => (intro w hSw; (try dsimp only at hSw); go_simp; try with_reducible rfl)
            try simp only [Act.put, List.getElem_toArray, List.getElem_cons_zero, List.getElem_cons_succ, List.setIfInBounds_toArray, List.set_cons_zero, List.set_cons_succ]
            refine wpAnyH_take (i := 13) (v := ?vCn13) rfl (by kernel_rfl) (by kernel_rfl) (by kernel_rfl) (fun _ _ _ h => h) (Or.inl ⟨by rfl, ?hyCn13⟩) (by assumption) ?_
            case hyCn13 => (intro w hSw; (try dsimp only at hSw); go_simp; try with_reducible rfl)
            try simp only [Act.put, List.getElem_toArray, List.getElem_cons_zero, List.getElem_cons_succ, List.setIfInBounds_toArray, List.set_cons_zero, List.set_cons_succ]
            refine wpAnyH_take (i := 14) (v := ?vCn14) rfl (by kernel_rfl) (by kernel_rfl) (by kernel_rfl) (fun _ _ _ h => h) (Or.inl ⟨by rfl, ?hyCn14⟩) (by assumption) ?_
            case hyCn14 => (intro w hSw; (try dsimp only at hSw); go_simp; try with_reducible rfl)
            try simp only [Act.put, List.getElem_toArray, List.getElem_cons_zero, List.getElem_cons_succ, List.setIfInBounds_toArray, List.set_cons_zero, List.set_cons_succ]
            refine wpAnyH_ready (rs := [15]) (by kernel_rfl) (by simp) (AllReadyH.cons rfl (fun K hK => ?_) AllReadyH.nil)
            go_simp
            refine hK.out _ _ ?hkCn15 (fun hHeld => ?_)
            case hkCn15 => exact ⟨⟨(hba.cell (World.block_lt_of_cell? _ _ q2)).trans q2, (hba.cell (World.block_lt_of_cell? _ _ q3)).trans q3, (hba.cell (World.block_lt_of_cell? _ _ q1)).trans q1⟩, ⟨(hba.cell (World.block_lt_of_cell? _ _ k3)).trans k3, (hba.frozen (p := ⟨kb, fr, none⟩) (World.block_lt_of_cell? _ _ k3)).trans kf⟩⟩
            clear hK K
            try simp only [Act.put, List.getElem_toArray, List.getElem_cons_zero, List.getElem_cons_succ, List.setIfInBounds_toArray, List.set_cons_zero, List.set_cons_succ]
            refine wpAnyH_take (i := 16) (v := ?vCn16) rfl (by kernel_rfl) (by kernel_rfl) (by kernel_rfl) (fun _ _ _ h => h) (Or.inl ⟨by rfl, ?hyCn16⟩) (by assumption) ?_
            case hyCn16 => (intro w hSw; (try dsimp only at hSw); go_simp; try with_reducible rfl)
            try simp only [Act.put, List.getElem_toArray, List.getElem_cons_zero, List.getElem_cons_succ, List.setIfInBounds_toArray, List.set_cons_zero, List.set_cons_succ]
            refine wpAnyH_done (by kernel_rfl) ?_ _
            refine sink_run rfl rfl ?_
            go_simp
            go_wp2_with fail
            go_meet
            obtain ⟨b8, ho8, hk1w, hm1, hbl1⟩ := HB.out
            exact hm1.made_all hfr HR.out hbl1.size b8 ho8 hk1w hbl1
        case rest =>
          obtain ⟨R1, gr, hR1, b8, ho8, hkw, hmw, hblw⟩ := hcut
          clear q1 q2 q3 k3 hbb HB hq
          obtain ⟨K, hcr, hzr⟩ := hmw.cr hR1
          have q2 := hmw.c0
          have q3 := hmw.c1
          have k3 := hmw.ck hfr
          rw [hR1] at k3
          unfold rowVal at k3
          have i5 : (fr : Int) < (P.n : Int) + 1 := by omega
          have i6 : (key : Int) < 2 * (L : Int) := by omega
          have r0 := hcr key 0 hkl (by omega)
          have r1 := hcr key 1 hkl (by omega)
          have r2 := hcr key 2 hkl (by omega)
          have r3 := hcr key 3 hkl (by omega)
          have HW := hide (And.intro hR1 (And.intro b8 (And.intro ho8 (And.intro hkw (And.intro hmw hblw)))))
          clear hR1 b8 ho8 hkw hmw hblw hcr hzr
          unfold memV at r0 r1 r2 r3
          cases hK : K key with
          | true =>
            rw [hK, HT.out] at r0 r1 r2 r3
            simp only [if_true, plV, Nat.add_zero] at r0 r1 r2 r3
            clear hK
            go_upto_region 9 with fail
            obtain ⟨hR1, b8, ho8, hkw, hmw, hblw⟩ := HW.out
            generalize B P ws D fr kk fl = p at *
            have hal := (Below.refl wc.heap.size wc).alloc (Nat.le_refl _) (.cells #[.bool true, .int .i64 p.en, .int .i64 p.co, .int .i64 p.li] 56)
            have bp := Blk.new wc 56 #[.bool true, .int .i64 p.en, .int .i64 p.co, .int .i64 p.li]
            have b8d := b8.below hal b8.lt
            have hmd := hmw.below hal
            have hkd := hkw.below hal
            clear b8 hkw hmw hblw hal HW r0 r1 r2 r3 q2 q3 k3 hR1 HT
            generalize wc.alloc (.cells #[.bool true, .int .i64 p.en, .int .i64 p.co, .int .i64 p.li] 56) = wd at *
            generalize wc.heap.size = gp at *
            have s0 : wd.cell? ⟨gp, 0, none⟩ = some (.bool true) := bp.cell 0
            have s1 : wd.cell? ⟨gp, 1, none⟩ = some (.int .i64 p.en) := bp.cell 1
            have s2 : wd.cell? ⟨gp, 2, none⟩ = some (.int .i64 p.co) := bp.cell 2
            have s3 : wd.cell? ⟨gp, 3, none⟩ = some (.int .i64 p.li) := bp.cell 3
            have t0 : wd.cell? ⟨g8, 0, none⟩ = some (.bool false) := b8d.cell 0
            have t1 : wd.cell? ⟨g8, 1, none⟩ = some (.int .i64 0) := b8d.cell 1
            have t2 : wd.cell? ⟨g8, 2, none⟩ = some (.int .i64 0) := b8d.cell 2
            have t3 : wd.cell? ⟨g8, 3, none⟩ = some (.int .i64 0) := b8d.cell 3
            have z0 : wd.frozen? ⟨g8, 0, none⟩ = false := b8d.frozen 0
            have z1 : wd.frozen? ⟨g8, 1, none⟩ = false := b8d.frozen 1
            have z2 : wd.frozen? ⟨g8, 2, none⟩ = false := b8d.frozen 2
            have z3 : wd.frozen? ⟨g8, 3, none⟩ = false := b8d.frozen 3
            have Hq := hide (set4_cells b8d p)
            have Hend := hide (hmd.set4 b8d ho8 hkd (by omega) p)
            clear bp b8d hmd hkd ho8
            go_wp2_with fail
            obtain ⟨e0, e1, e2, e3⟩ := Hq.out
            refine bodyPost_ret (v := plA p) (by simp [results, Try.results17, go_sem, e0, e1, e2, e3, plA]) rfl ⟨R1, rfl, by rw [hL]; exact Hend.out.1, Hend.out.2⟩
          | false =>
            rw [hK] at r0 r1 r2 r3
            simp only [Bool.false_eq_true, if_false, nilV, Nat.add_zero] at r0 r1 r2 r3
            clear hK
            go_upto_region 10 with fail
            obtain ⟨hR1, b8, ho8, hkw, hmw, hblw⟩ := HW.out
            have hal := (Below.refl wc.heap.size wc).alloc (Nat.le_refl _) (.cells #[.bool false, .int .i64 0, .int .i64 0, .int .i64 0] 56)
            have b8d := b8.below hal b8.lt
            have hmd := hmw.below hal
            have hkd := hkw.below hal
            have hbd := hblw.trans (hal.mono hblw.size)
            clear b8 hkw hmw hblw hal HW r0 r1 r2 r3 q2 q3 k3
            generalize wc.alloc (.cells #[.bool false, .int .i64 0, .int .i64 0, .int .i64 0] 56) = wd at *
            generalize wc.heap.size = g10 at *
            go_upto_region 11 with fail
            have hal := (Below.refl wd.heap.size wd).alloc (Nat.le_refl _) (.cells #[.bool true, .int .i64 (-1), .int .i64 0, .int .i64 0] 56)
            have bb := Blk.new wd 56 (plC ⟨-1, 0, 0⟩)
            have hob : Out kb R1 wd.heap.size := hmd.out (Nat.le_refl _)
            have b8e := b8d.below hal b8d.lt
            have hme := hmd.below hal
            have hke := hkd.below hal
            have hbe := hbd.trans (hal.mono hbd.size)
            have hgb : w.heap.size ≤ wd.heap.size := hkd.size
            have hmd2 : g8 < wd.heap.size := b8d.lt
            unfold plC at bb
            clear b8d hmd hkd hbd hal
            generalize wd.alloc (.cells #[.bool true, .int .i64 (-1), .int .i64 0, .int .i64 0] 56) = we at *
            generalize wd.heap.size = gb at *
            have q2 := hme.c0
            have He := hide (ends_ok (H0.out.below hbe) Hv.out (by omega) (by omega) Hww.out hfr (k := kk) (by omega))
            have HX := hide (And.intro hR1 (And.intro b8e (And.intro ho8 (And.intro hke (And.intro hme (And.intro hbe (And.intro bb (And.intro hob hgb))))))))
            clear hR1 b8e ho8 hke hme hbe bb hob hgb
            go_wp2_with fail
            refine He.out.mono ?_
            rintro e wf ⟨Ae, ce, rfl, hownE, hbf⟩
            obtain ⟨hR1, b8e, ho8, hke, hme, hbe, bb, hob, hgb⟩ := HX.out
            have b8f := b8e.below hbf b8e.lt
            have hmf := hme.below hbf
            have hkf := hke.below hbf
            have hbf2 := hbe.trans (hbf.mono hbe.size)
            have bbf := bb.below hbf bb.lt
            have hEl : ∀ x ∈ ends P ws fr kk, EndOf P ws fr kk x := fun x hx => ends_mem hfr hx
            have hlen := ends_len P ws fr kk
            have hBu := B_unfold P ws D kk fl hfr
            have hEn : EndsAt kb R1 Ae (ends P ws fr kk) wf := EndsAt.of_own hownE (fun g hg => hme.out hg)
            have hVL : ∀ x ∈ ends P ws fr kk, VL P x := fun x hx => end_vl Hv.out Hww.out (hEl x hx)
            have hRec : ∀ x ∈ ends P ws fr kk, last P x.en = false → PlOk P.n 1000 (B P ws D (after P x.en) (min (kk + 1) (ws.length - 1)) (flag P x.en)) := fun x hx hl => by
              have ha := after_lt (hEl x hx).le hl
              have h1 := B_ok Hv.out Hww.out HD.out (P.n + 1 - after P x.en) (after P x.en) (min (kk + 1) (ws.length - 1)) (flag P x.en) (by omega) rfl
              have h2 : ((P.n + 1 - after P x.en : Nat) : Int) ≤ 1000 := by omega
              exact ⟨h1.en, by have := h1.co; omega, by have := h1.li; omega⟩
            have hAcc : ∀ i, PlOk P.n 1001 (acc (stepP P D fl fun x => B P ws D (after P x.en) (min (kk + 1) (ws.length - 1)) (flag P x.en)) (ends P ws fr kk) i) := fun i =>
              acc_inv (Q := PlOk P.n 1001) ⟨⟨by show (-1 : Int) ≤ -1; omega, by show (-1 : Int) ≤ _; omega⟩, ⟨by show _ ≤ (0 : Int); omega, by show (0 : Int) ≤ _; omega⟩, ⟨by show (0 : Int) ≤ 0; omega, by show (0 : Int) ≤ _; omega⟩⟩
                (fun p x hx hp => stepP_ok (m := 1000) Hv.out (hVL x hx) HD.out hp (by omega) (hRec x hx)) i
            have hst : LSt w0.heap.size wb kb b P.n L fr gr g8 gb (TB P ws D) w0 w R Ae (ends P ws fr kk) ⟨-1, 0, 0⟩ R1 wf := ⟨hmf, hkf, hbf2, hR1, b8f, ho8, bbf, hob, hEn, ⟨fun e => by omega, hgb, by omega, by omega⟩⟩
            rw [hL] at hBu hRec hAcc
            have HE := hide (And.intro hEl (And.intro hVL (And.intro hRec hAcc)))
            have HBu := hide hBu
            clear He HX b8e hke hme hbe bb q2 hbf hEl hVL hRec hAcc hBu hEn hownE hmf hkf hbf2 hR1 b8f ho8 bbf hob hgb hmd2
            generalize ends P ws fr kk = E at *
            generalize hstp : (stepP P D fl fun x => B P ws D (after P x.en) (min (kk + 1) (L - 1)) (flag P x.en)) = st at *
            have Hst := hide hst
            have Hstp := hide hstp
            clear hst hstp
            go_wp2_with fail
            go_loopw [81] (fun a wr => ∃ (i : Nat) (R2 : Nat → Option Nat), i ≤ E.length ∧ a = .int .i64 i ∧ Hid (LSt w0.heap.size wb kb b P.n L fr gr g8 gb (TB P ws D) w0 w R Ae E (acc st E i) R2 wr)) (fun a _ => E.length - (intOf a).toNat)
            case atStart => exact ⟨0, R1, by omega, rfl, by rw [acc_zero]; exact Hst⟩
            case round =>
              clear Hst
              obtain ⟨i, R2, hi, rfl, HS⟩ := hrel
              by_cases hlt : i < E.length
              · obtain ⟨ge, x, hxi, hxE, rfl, k0, k1, k2, k3, k4, k5⟩ := HS.out.cells hlt
                have hacc := acc_succ st E hlt hxi
                have Hacc := hide hacc
                have HxE := hide hxE
                clear hacc hxi hxE
                go_upto_region 14 with fail
                have hb0 := (Below.refl wr.heap.size wr).alloc (Nat.le_refl _) (.cells #[.int .i64 x.fr, .int .i64 x.en, .int .i64 x.nat, .int .i64 x.str, .int .i64 x.shr, .int .i64 x.wid] 35)
                have bx := Blk.new wr 35 (linC x)
                have ox : Out kb R2 wr.heap.size := HS.out.mem.out (Nat.le_refl _)
                have HXa := HS.out.below hb0
                have hnew : w.heap.size ≤ wr.heap.size := HS.out.kept.size
                unfold linC at bx
                clear k0 k1 k2 k3 k4 k5 HS hb0
                generalize hpp : acc st E i = p at *
                generalize wr.alloc (.cells #[.int .i64 x.fr, .int .i64 x.en, .int .i64 x.nat, .int .i64 x.str, .int .i64 x.shr, .int .i64 x.wid] 35) = wa at *
                generalize wr.heap.size = gx at *
                have HX : Hid (LX w0.heap.size wb kb b P.n L fr gr g8 gb (TB P ws D) w0 w R (some ⟨ge, 0, none⟩) E p gx x R2 wa) := ⟨HXa, bx, ox⟩
                have HPlA : Hid (PlOk P.n 1001 p) := by rw [← hpp]; exact HE.out.2.2.2 i
                have HPlR : Hid (last P x.en = false → PlOk P.n 1000 (B P ws D (after P x.en) (min (kk + 1) (L - 1)) (flag P x.en))) := HE.out.2.2.1 x HxE.out
                have HVx : Hid (VL P x) := HE.out.2.1 x HxE.out
                have HEx : Hid (EndOf P ws fr kk x) := HE.out.1 x HxE.out
                have hcb := cost_bd Hv.out HVx.out
                have HStep : Hid (acc st E (i + 1) = if p.en < 0 ∨ cost P x + (if fl && flag P x.en then D else 0) + (if last P x.en then 0 else (B P ws D (after P x.en) (min (kk + 1) (L - 1)) (flag P x.en)).co) < p.co ∨ (cost P x + (if fl && flag P x.en then D else 0) + (if last P x.en then 0 else (B P ws D (after P x.en) (min (kk + 1) (L - 1)) (flag P x.en)).co) = p.co ∧ 1 + (if last P x.en then 0 else (B P ws D (after P x.en) (min (kk + 1) (L - 1)) (flag P x.en)).li) ≤ p.li) then ⟨x.en, cost P x + (if fl && flag P x.en then D else 0) + (if last P x.en then 0 else (B P ws D (after P x.en) (min (kk + 1) (L - 1)) (flag P x.en)).co), 1 + (if last P x.en then 0 else (B P ws D (after P x.en) (min (kk + 1) (L - 1)) (flag P x.en)).li)⟩ else p) := by
                  have h1 := Hacc.out
                  rw [← Hstp.out] at h1
                  rw [← Hstp.out]
                  exact h1
                clear Hacc HXa bx ox hpp
                have q2 := HX.out.c0
                have x0 : wa.cell? ⟨gx, 0, none⟩ = some (.int .i64 x.fr) := HX.out.bx.cell 0
                have x1 : wa.cell? ⟨gx, 1, none⟩ = some (.int .i64 x.en) := HX.out.bx.cell 1
                have x2 : wa.cell? ⟨gx, 2, none⟩ = some (.int .i64 x.nat) := HX.out.bx.cell 2
                have x3 : wa.cell? ⟨gx, 3, none⟩ = some (.int .i64 x.str) := HX.out.bx.cell 3
                have x4 : wa.cell? ⟨gx, 4, none⟩ = some (.int .i64 x.shr) := HX.out.bx.cell 4
                have x5 : wa.cell? ⟨gx, 5, none⟩ = some (.int .i64 x.wid) := HX.out.bx.cell 5
                have Hco := hide (fun wx (m : Mk wx b P ws D Ap Aw A2 A3 A4 A5 cp cw c2 c3 c4 c5) => cost_ok m Hv.out HVx.out)
                have Hco2 := hide (Hco.out _ (H0.out.below (HX.out.drewN 1).st.bel))
                unfold linA at Hco2
                generalize cost P x = C at *
                go_cut [14, 15] (fun u v wc => u = .int .i64 C ∧ v = .int .i64 1 ∧ Hid (LX w0.heap.size wb kb b P.n L fr gr g8 gb (TB P ws D) w0 w R (some ⟨ge, 0, none⟩) E p gx x R2 wc))
                case first => as_aux_lemma =>
                  go_region_held3 (fun w' => w'.cell? ⟨wb, 0, none⟩ = some (.pointer (some ⟨b, 0, none⟩)) ∧ w'.cell? ⟨gx, 0, none⟩ = some (.int .i64 x.fr) ∧ w'.cell? ⟨gx, 1, none⟩ = some (.int .i64 x.en) ∧ w'.cell? ⟨gx, 2, none⟩ = some (.int .i64 x.nat) ∧ w'.cell? ⟨gx, 3, none⟩ = some (.int .i64 x.str) ∧ w'.cell? ⟨gx, 4, none⟩ = some (.int .i64 x.shr) ∧ w'.cell? ⟨gx, 5, none⟩ = some (.int .i64 x.wid))
                    (first
                      | go_keep
                      | exact ⟨((HX.out.drewN 1).below hbc).c0, ((HX.out.drewN 1).below hbc).bx.cell 0, ((HX.out.drewN 1).below hbc).bx.cell 1, ((HX.out.drewN 1).below hbc).bx.cell 2, ((HX.out.drewN 1).below hbc).bx.cell 3, ((HX.out.drewN 1).below hbc).bx.cell 4, ((HX.out.drewN 1).below hbc).bx.cell 5⟩)
                      ((go_at_call 23; refine Hco2.out.mono ?_; rintro e wd ⟨rfl, hbc⟩))
                  all_goals
                    go_wp2_with fail
                    go_meet
                    exact ⟨rfl, rfl, hide ((HX.out.drewN 1).below hbc)⟩
                case rest =>
                  obtain ⟨rfl, rfl, HX1⟩ := hcut
                  clear x0 x1 x2 x3 x4 x5 q2 HX Hco Hco2
                  have x1 := HX1.out.x1
                  have q2 := HX1.out.c0
                  have Hfl : Hid (∀ d, Calls Try.prog 21 #[.pointer (some ⟨b, 0, none⟩), .int .i64 x.en] (wc.drewN d) fun e w' => e = .returned (.bool (flag P x.en)) ∧ w' = wc.drewN d) := fun d => (flagged_ok (H0.out.below (HX1.out.drewN d).st.bel) HEx.out.le).mono fun e w' h => ⟨h.1, h.2.symm⟩
                  go_upto_region 15 with fail
                  go_cut [100] (fun v wd => v = .bool (fl && flag P x.en) ∧ Hid (LX w0.heap.size wb kb b P.n L fr gr g8 gb (TB P ws D) w0 w R (some ⟨ge, 0, none⟩) E p gx x R2 wd))
                  case first => as_aux_lemma =>
                    cases fl with
                    | false =>
                      go_quiet (fail)
                      go_wp2_with fail
                      go_meet
                      exact ⟨rfl, hide (HX1.out.drewN _)⟩
                    | true =>
                      generalize flag P x.en = ff at *
                      go_quiet ((go_at_call 21; exact Calls.quiet_of_same (Hfl.out _)))
                      go_wp2_with fail
                      go_meet
                      exact ⟨by simp, hide (HX1.out.drewN _)⟩
                  case rest =>
                    obtain ⟨rfl, HX2⟩ := hcut
                    clear x1 q2 HX1 Hfl
                    generalize hfd : (fl && flag P x.en) = fd at *
                    have q2 := HX2.out.c0
                    have M2 := H0.out.below HX2.out.st.bel
                    have q4 : wc.cell? ⟨b, 2, none⟩ = some (.int .i64 D) := M2.blk.cell 2
                    have hD0 := HD.out
                    clear M2
                    go_upto_if 100 with fail
                    go_cut [14] (fun u wd => u = .int .i64 (C + if fd then D else 0) ∧ Hid (LX w0.heap.size wb kb b P.n L fr gr g8 gb (TB P ws D) w0 w R (some ⟨ge, 0, none⟩) E p gx x R2 wd))
                    case first => as_aux_lemma =>
                      cases fd with
                      | false =>
                        go_wp2_with fail
                        go_meet
                        exact ⟨by simp, HX2⟩
                      | true =>
                        go_wp2_with fail
                        go_meet
                        exact ⟨by simp, HX2⟩
                    case rest =>
                      obtain ⟨rfl, HX3⟩ := hcut
                      clear q2 q4 HX2
                      have hd2 : 0 ≤ (if fd then D else 0) ∧ (if fd then D else 0) ≤ 5000 := by split <;> omega
                      generalize (if fd then D else 0) = dd at *
                      have x1 := HX3.out.x1
                      have q2 := HX3.out.c0
                      have Hla : Hid (∀ d, Calls Try.prog 19 #[.pointer (some ⟨b, 0, none⟩), .int .i64 x.en] (wc.drewN d) fun e w' => e = .returned (.bool (last P x.en)) ∧ ∃ m, w' = wc.drewN m) := fun d => (last_ok (H0.out.below (HX3.out.drewN d).st.bel) few HEx.out.le).mono fun e w' h => ⟨h.1, h.2.elim fun q hq => ⟨d + q, by rw [hq]; simp⟩⟩
                      go_upto_region 17 with fail
                      go_cut [118] (fun v wd => v = .bool (!last P x.en) ∧ Hid (LX w0.heap.size wb kb b P.n L fr gr g8 gb (TB P ws D) w0 w R (some ⟨ge, 0, none⟩) E p gx x R2 wd))
                      case first => as_aux_lemma =>
                        generalize last P x.en = la at *
                        go_quiet ((go_at_call 19; exact Hla.out _))
                        go_wp2_with fail
                        go_meet
                        exact ⟨rfl, hide (HX3.out.drewN _)⟩
                      case rest =>
                        obtain ⟨rfl, HX4⟩ := hcut
                        clear x1 q2 HX3 Hla
                        have HIH : Hid (last P x.en = false → ∀ (w' : World) (R' : Nat → Option Nat), Below w0.heap.size w0 w' → Mem w' w0.heap.size wb kb b P.n L (TB P ws D) R' → Calls Try.prog 17 #[.pointer (some ⟨wb, 0, none⟩), .int .i64 (after P x.en), .int .i64 ((kk : Int) + 1), .bool (flag P x.en)] w' (BestPost P ws D w0.heap.size wb kb b R' (B P ws D (after P x.en) (min (kk + 1) (L - 1)) (flag P x.en)) w')) := fun hl w' R' h1 h2 => by
                          have ha := after_lt HEx.out.le hl
                          have hg := HEx.out.ge
                          have := ih.out (after P x.en) (by omega) (by omega) (kk + 1) (flag P x.en) w' R' (by omega) h1 h2
                          exact this
                        generalize B P ws D (after P x.en) (min (kk + 1) (L - 1)) (flag P x.en) = rp at *
                        go_upto_if 118 with fail
                        go_cut [14, 15] (fun u v wd => u = .int .i64 (C + dd + (if last P x.en then 0 else rp.co)) ∧ v = .int .i64 (1 + (if last P x.en then 0 else rp.li)) ∧ ∃ R3, Hid (LX w0.heap.size wb kb b P.n L fr gr g8 gb (TB P ws D) w0 w R (some ⟨ge, 0, none⟩) E p gx x R3 wd))
                        case first => as_aux_lemma =>
                          generalize last P x.en = la at *
                          cases la with
                          | true =>
                            go_wp2_with fail
                            go_meet
                            exact ⟨by simp, by simp, R2, HX4⟩
                          | false =>
                            have hrp := HPlR.out rfl
                            have x1 := HX4.out.x1
                            have q2 := HX4.out.c0
                            have q5 : IntKind.i64.wrap ((kk : Int) + 1) = (kk : Int) + 1 := IntWalk.i64_in _ (by omega)
                            go_upto_region 18 with fail
                            go_cut [16] (fun v wd => ∃ gp R5, v = .pointer (some ⟨gp, 0, none⟩) ∧ Blk wd gp 56 (plC rp) ∧ Hid (LX w0.heap.size wb kb b P.n L fr gr g8 gb (TB P ws D) w0 w R (some ⟨ge, 0, none⟩) E p gx x R5 wd))
                            case first => as_aux_lemma =>
                              refine wp_region_sink (S := fun w' : World => (w'.cell? ⟨wb, 0, none⟩ = some (.pointer (some ⟨b, 0, none⟩)) ∧ w'.cell? ⟨gx, 1, none⟩ = some (.int .i64 x.en)) ∧ Hid (∃ R5, (LX w0.heap.size wb kb b P.n L fr gr g8 gb (TB P ws D) w0 w R (some ⟨ge, 0, none⟩) E p gx x R5 w'))) 19 (by kernel_rfl) (by kernel_rfl) (by kernel_rfl) (by kernel_rfl) ?hS18 (fun hHeld => ?_)
                              case hS18 => exact ⟨⟨q2, x1⟩, hide ⟨R2, HX4.out.drewN 1⟩⟩
                              clear q2 x1
                              simp only [List.take_succ_cons, List.take_zero]
                              refine wpAnyH_take (i := 0) (v := ?v18n0) rfl (by kernel_rfl) (by kernel_rfl) (by kernel_rfl) (fun _ _ _ h => h) (Or.inl ⟨by rfl, ?hy18n0⟩) (by assumption) ?_
                              case hy18n0 => (intro w hSw; (try dsimp only at hSw); go_simp; try with_reducible rfl)
                              try simp only [Act.put, List.getElem_toArray, List.getElem_cons_zero, List.setIfInBounds_toArray, List.set_cons_zero, List.set_cons_succ]
                              refine wpAnyH_take (i := 1) (v := ?v18n1) rfl (by kernel_rfl) (by kernel_rfl) (by kernel_rfl) (fun _ _ _ h => h) (Or.inl ⟨by rfl, ?hy18n1⟩) (by assumption) ?_
                              case hy18n1 => (intro w hSw; (try dsimp only at hSw); go_simp; try with_reducible rfl)
                              try simp only [Act.put, List.getElem_toArray, List.getElem_cons_zero, List.getElem_cons_succ, List.setIfInBounds_toArray, List.set_cons_zero, List.set_cons_succ]
                              refine wpAnyH_take (i := 2) (v := ?v18n2) rfl (by kernel_rfl) (by kernel_rfl) (by kernel_rfl) (fun _ _ _ h => h) (Or.inl ⟨by rfl, ?hy18n2⟩) (by assumption) ?_
                              case hy18n2 => (intro w hSw; (try dsimp only at hSw); go_simp; try with_reducible rfl)
                              try simp only [Act.put, List.getElem_toArray, List.getElem_cons_zero, List.getElem_cons_succ, List.setIfInBounds_toArray, List.set_cons_zero, List.set_cons_succ]
                              refine wpAnyH_take (i := 3) (v := ?v18n3) rfl (by kernel_rfl) (by kernel_rfl) (by kernel_rfl) (fun _ _ _ h => h) (Or.inl ⟨by rfl, ?hy18n3⟩) (by assumption) ?_
                              case hy18n3 => (intro w hSw; (try dsimp only at hSw); go_simp; try with_reducible rfl)
                              try simp only [Act.put, List.getElem_toArray, List.getElem_cons_zero, List.getElem_cons_succ, List.setIfInBounds_toArray, List.set_cons_zero, List.set_cons_succ]
                              refine wpAnyH_take (i := 4) (v := ?v18n4) rfl (by kernel_rfl) (by kernel_rfl) (by kernel_rfl) (fun _ _ _ h => h) (Or.inl ⟨by rfl, ?hy18n4⟩) (by assumption) ?_
                              case hy18n4 => (intro w hSw; (try dsimp only at hSw); go_simp; try with_reducible rfl)
                              try simp only [Act.put, List.getElem_toArray, List.getElem_cons_zero, List.getElem_cons_succ, List.setIfInBounds_toArray, List.set_cons_zero, List.set_cons_succ]
                              refine wpAnyH_take (i := 5) (v := ?v18n5) rfl (by kernel_rfl) (by kernel_rfl) (by kernel_rfl) (fun _ _ _ h => h) (Or.inl ⟨by rfl, ?hy18n5⟩) (by assumption) ?_
                              case hy18n5 => (intro w hSw; (try dsimp only at hSw); go_simp; try with_reducible rfl)
                              try simp only [Act.put, List.getElem_toArray, List.getElem_cons_zero, List.getElem_cons_succ, List.setIfInBounds_toArray, List.set_cons_zero, List.set_cons_succ]
                              refine wpAnyH_take (i := 6) (v := ?v18n6) rfl (by kernel_rfl) (by kernel_rfl) (by kernel_rfl) (fun _ _ _ h => h) (Or.inl ⟨by rfl, ?hy18n6⟩) (by assumption) ?_
                              case hy18n6 => (intro w hSw; (try dsimp only at hSw); go_simp; try with_reducible rfl)
                              try simp only [Act.put, List.getElem_toArray, List.getElem_cons_zero, List.getElem_cons_succ, List.setIfInBounds_toArray, List.set_cons_zero, List.set_cons_succ]
                              refine wpAnyH_take (i := 8) (v := ?v18n8) rfl (by kernel_rfl) (by kernel_rfl) (by kernel_rfl) (fun _ _ _ h => h) (Or.inl ⟨by rfl, ?hy18n8⟩) (by assumption) ?_
                              case hy18n8 => (intro w hSw; (try dsimp only at hSw); go_simp; try with_reducible rfl)
                              try simp only [Act.put, List.getElem_toArray, List.getElem_cons_zero, List.getElem_cons_succ, List.setIfInBounds_toArray, List.set_cons_zero, List.set_cons_succ]
                              refine wpAnyH_take (i := 9) (v := ?v18n9) rfl (by kernel_rfl) (by kernel_rfl) (by kernel_rfl) (fun _ _ _ h => h) (Or.inl ⟨by rfl, ?hy18n9⟩) (by assumption) ?_
                              case hy18n9 => (intro w hSw; (try dsimp only at hSw); go_simp; try with_reducible rfl)
                              try simp only [Act.put, List.getElem_toArray, List.getElem_cons_zero, List.getElem_cons_succ, List.setIfInBounds_toArray, List.set_cons_zero, List.set_cons_succ]
                              refine wpAnyH_take (i := 10) (v := ?v18n10) rfl (by kernel_rfl) (by kernel_rfl) (by kernel_rfl) (fun _ _ _ h => h) (Or.inl ⟨by rfl, ?hy18n10⟩) (by assumption) ?_
                              case hy18n10 => (intro w hSw; (try dsimp only at hSw); go_simp; try with_reducible rfl)
                              try simp only [Act.put, List.getElem_toArray, List.getElem_cons_zero, List.getElem_cons_succ, List.setIfInBounds_toArray, List.set_cons_zero, List.set_cons_succ]
                              refine wpAnyH_take (i := 11) (v := ?v18n11) rfl (by kernel_rfl) (by kernel_rfl) (by kernel_rfl) (fun _ _ _ h => h) (Or.inl ⟨by rfl, ?hy18n11⟩) (by assumption) ?_
                              case hy18n11 => (intro w hSw; (try dsimp only at hSw); go_simp; try with_reducible rfl)
                              try simp only [Act.put, List.getElem_toArray, List.getElem_cons_zero, List.getElem_cons_succ, List.setIfInBounds_toArray, List.set_cons_zero, List.set_cons_succ]
                              refine wpAnyH_take (i := 12) (v := ?v18n12) rfl (by kernel_rfl) (by kernel_rfl) (by kernel_rfl) (fun _ _ _ h => h) (Or.inl ⟨by rfl, ?hy18n12⟩) (by assumption) ?_
                              case hy18n12 => (intro w hSw; (try dsimp only at hSw); go_simp; try with_reducible rfl)
                              try simp only [Act.put, List.getElem_toArray, List.getElem_cons_zero, List.getElem_cons_succ, List.setIfInBounds_toArray, List.set_cons_zero, List.set_cons_succ]
                              refine wpAnyH_take (i := 13) (v := ?v18n13) rfl (by kernel_rfl) (by kernel_rfl) (by kernel_rfl) (fun _ _ _ h => h) (Or.inl ⟨by rfl, ?hy18n13⟩) (by assumption) ?_
                              case hy18n13 => (intro w hSw; (try dsimp only at hSw); go_simp; try with_reducible rfl)
                              try simp only [Act.put, List.getElem_toArray, List.getElem_cons_zero, List.getElem_cons_succ, List.setIfInBounds_toArray, List.set_cons_zero, List.set_cons_succ]
                              refine wpAnyH_take (i := 14) (v := ?v18n14) rfl (by kernel_rfl) (by kernel_rfl) (by kernel_rfl) (fun _ _ _ h => h) (Or.inl ⟨by rfl, ?hy18n14⟩) (by assumption) ?_
                              case hy18n14 => (intro w hSw; (try dsimp only at hSw); go_simp; try with_reducible rfl)
                              try simp only [Act.put, List.getElem_toArray, List.getElem_cons_zero, List.getElem_cons_succ, List.setIfInBounds_toArray, List.set_cons_zero, List.set_cons_succ]
                              refine wpAnyH_take (i := 15) (v := ?v18n15) rfl (by kernel_rfl) (by kernel_rfl) (by kernel_rfl) (fun _ _ _ h => h) (Or.inl ⟨by rfl, ?hy18n15⟩) (by assumption) ?_
                              case hy18n15 => (intro w hSw; (try dsimp only at hSw); go_simp; try with_reducible rfl)
                              try simp only [Act.put, List.getElem_toArray, List.getElem_cons_zero, List.getElem_cons_succ, List.setIfInBounds_toArray, List.set_cons_zero, List.set_cons_succ]
                              refine wpAnyH_ready (rs := [7, 18]) (by kernel_rfl) (by simp) (AllReadyH.cons rfl (fun K hK => ?_) (AllReadyH.cons rfl (fun K hK => ?_) AllReadyH.nil))
                              · skip
                                obtain ⟨R5, h5⟩ := hHeld.2.out
                                go_simp
                                go_at_call 20
                                with_reducible refine (after_ok (H0.out.below h5.st.bel) few HEx.out.le).mono ?_
                                rintro e wA ⟨rfl, rfl⟩
                                refine hK.out _ _ hHeld (fun _ => ?_)
                                clear hK K
                                try simp only [Act.put, List.getElem_toArray, List.getElem_cons_zero, List.getElem_cons_succ, List.setIfInBounds_toArray, List.set_cons_zero, List.set_cons_succ]
                                refine wpAnyH_ready (rs := [16, 18]) (by kernel_rfl) (by simp) (AllReadyH.cons rfl (fun K hK => ?_) (AllReadyH.cons rfl (fun K hK => ?_) AllReadyH.nil))
                                · skip
                                  go_simp
                                  go_at_call 21
                                  with_reducible refine (flagged_ok (H0.out.below h5.st.bel) HEx.out.le).mono ?_
                                  rintro e wA ⟨rfl, rfl⟩
                                  refine hK.out _ _ hHeld (fun _ => ?_)
                                  clear hK K
                                  try simp only [Act.put, List.getElem_toArray, List.getElem_cons_zero, List.getElem_cons_succ, List.setIfInBounds_toArray, List.set_cons_zero, List.set_cons_succ]
                                  refine wpAnyH_ready (rs := [17, 18]) (by kernel_rfl) (by simp) (AllReadyH.cons rfl (fun K hK => ?_) (AllReadyH.cons rfl (fun K hK => ?_) AllReadyH.nil))
                                  · skip
                                    go_simp
                                    go_at_call 17
                                    with_reducible refine (HIH.out rfl _ _ h5.st.bel h5.st.mem).mono ?_
                                    rintro e wB ⟨R6, rfl, hm6, hk6⟩
                                    rw [hL] at hm6
                                    have h6 := h5.kept hk6 hm6
                                    refine hK.out _ _ ⟨⟨h6.c0, h6.x1⟩, hide ⟨R6, h6⟩⟩ (fun hHeld => ?_)
                                    clear h5 hm6 hk6
                                    clear hK K
                                    try simp only [Act.put, List.getElem_toArray, List.getElem_cons_zero, List.getElem_cons_succ, List.setIfInBounds_toArray, List.set_cons_zero, List.set_cons_succ]
                                    refine wpAnyH_ready (rs := [18]) (by kernel_rfl) (by simp) (AllReadyH.cons rfl (fun K hK => ?_) AllReadyH.nil)
                                    go_simp
                                    have h7 := h6.below ((Below.refl _ _).alloc (Nat.le_refl _) (.cells #[.bool false, .int .i64 0, .int .i64 0, .int .i64 0] 56))
                                    refine hK.out _ _ ⟨⟨h7.c0, h7.x1⟩, hide ⟨R6, h7⟩⟩ (fun hHeld => ?_)
                                    clear h7
                                    clear hK K
                                    try simp only [Act.put, List.getElem_toArray, List.getElem_cons_zero, List.getElem_cons_succ, List.setIfInBounds_toArray, List.set_cons_zero, List.set_cons_succ]
                                    refine wpAnyH_done (by kernel_rfl) ?_ _
                                    refine sink_run rfl rfl ?_
                                    unfold plA
                                    go_simp
                                    go_wp2_with fail
                                    go_meet
                                    exact ⟨_, R6, rfl, Blk.new _ _ _, hide (h6.below ((Below.refl _ _).alloc (Nat.le_refl _) _))⟩
                                  · skip
                                    go_simp
                                    have h7 : (LX w0.heap.size wb kb b P.n L fr gr g8 gb (TB P ws D) w0 w R (some ⟨ge, 0, none⟩) E p gx x R5 (wc.alloc (.cells #[.bool false, .int .i64 0, .int .i64 0, .int .i64 0] 56)).drew) := h5.below ((Below.refl _ _).alloc (Nat.le_refl _) (.cells #[.bool false, .int .i64 0, .int .i64 0, .int .i64 0] 56))
                                    have bz : Blk (wc.alloc (.cells #[.bool false, .int .i64 0, .int .i64 0, .int .i64 0] 56)).drew wc.heap.size 56 #[.bool false, .int .i64 0, .int .i64 0, .int .i64 0] := Blk.new wc _ _
                                    have hz : Out kb R5 wc.heap.size := h5.st.mem.out (Nat.le_refl _)
                                    have hgw : w.heap.size ≤ wc.heap.size := h5.st.kept.size
                                    have hgn : wc.heap.size ≠ gb ∧ wc.heap.size ≠ g8 := ⟨fun e => by have : gb < wc.heap.size := h5.st.bb.lt; omega, fun e => by have : g8 < wc.heap.size := h5.st.b8.lt; omega⟩
                                    refine hK.out _ _ ⟨⟨h7.c0, h7.x1⟩, hide ⟨R5, h7⟩⟩ (fun hHeld => ?_)
                                    clear h5
                                    generalize (wc.alloc (.cells #[.bool false, .int .i64 0, .int .i64 0, .int .i64 0] 56)).drew = wz at *
                                    generalize wc.heap.size = gp at *
                                    have hzl := bz.lt
                                    have h5 := h7
                                    clear h7
                                    clear hK K
                                    try simp only [Act.put, List.getElem_toArray, List.getElem_cons_zero, List.getElem_cons_succ, List.setIfInBounds_toArray, List.set_cons_zero, List.set_cons_succ]
                                    refine wpAnyH_ready (rs := [17]) (by kernel_rfl) (by simp) (AllReadyH.cons rfl (fun K hK => ?_) AllReadyH.nil)
                                    go_simp
                                    go_at_call 17
                                    with_reducible refine (HIH.out rfl _ _ h5.st.bel h5.st.mem).mono ?_
                                    rintro e wB ⟨R6, rfl, hm6, hk6⟩
                                    rw [hL] at hm6
                                    have bz := Blk.kept bz hz hk6
                                    have hz6 := hz.kept hzl hk6
                                    have h6 := h5.kept hk6 hm6
                                    refine hK.out _ _ ⟨⟨h6.c0, h6.x1⟩, hide ⟨R6, h6⟩⟩ (fun hHeld => ?_)
                                    clear h5 hm6 hk6
                                    clear hK K
                                    try simp only [Act.put, List.getElem_toArray, List.getElem_cons_zero, List.getElem_cons_succ, List.setIfInBounds_toArray, List.set_cons_zero, List.set_cons_succ]
                                    refine wpAnyH_done (by kernel_rfl) ?_ _
                                    refine sink_run rfl rfl ?_
                                    unfold plA
                                    have c0 := bz.cell 0
                                    have c1 := bz.cell 1
                                    have c2 := bz.cell 2
                                    have c3 := bz.cell 3
                                    have z0 := bz.frozen 0
                                    have z1 := bz.frozen 1
                                    have z2 := bz.frozen 2
                                    have z3 := bz.frozen 3
                                    obtain ⟨R9, h9⟩ := hHeld.2.out
                                    have hend := hide (And.intro (set4_blk bz rp) (h6.own bz hz6 hgw hgn rp))
                                    clear hHeld h6 bz hz6
                                    simp only [List.getElem?_toArray, List.getElem?_cons_zero, List.getElem?_cons_succ] at c0 c1 c2 c3
                                    go_simp
                                    go_wp2_with fail
                                    go_meet
                                    exact ⟨_, R6, rfl, hend.out.1, hide hend.out.2⟩
                                · skip
                                  go_simp
                                  have h7 : (LX w0.heap.size wb kb b P.n L fr gr g8 gb (TB P ws D) w0 w R (some ⟨ge, 0, none⟩) E p gx x R5 (wc.alloc (.cells #[.bool false, .int .i64 0, .int .i64 0, .int .i64 0] 56)).drew) := h5.below ((Below.refl _ _).alloc (Nat.le_refl _) (.cells #[.bool false, .int .i64 0, .int .i64 0, .int .i64 0] 56))
                                  have bz : Blk (wc.alloc (.cells #[.bool false, .int .i64 0, .int .i64 0, .int .i64 0] 56)).drew wc.heap.size 56 #[.bool false, .int .i64 0, .int .i64 0, .int .i64 0] := Blk.new wc _ _
                                  have hz : Out kb R5 wc.heap.size := h5.st.mem.out (Nat.le_refl _)
                                  have hgw : w.heap.size ≤ wc.heap.size := h5.st.kept.size
                                  have hgn : wc.heap.size ≠ gb ∧ wc.heap.size ≠ g8 := ⟨fun e => by have : gb < wc.heap.size := h5.st.bb.lt; omega, fun e => by have : g8 < wc.heap.size := h5.st.b8.lt; omega⟩
                                  refine hK.out _ _ ⟨⟨h7.c0, h7.x1⟩, hide ⟨R5, h7⟩⟩ (fun hHeld => ?_)
                                  clear h5
                                  generalize (wc.alloc (.cells #[.bool false, .int .i64 0, .int .i64 0, .int .i64 0] 56)).drew = wz at *
                                  generalize wc.heap.size = gp at *
                                  have hzl := bz.lt
                                  have h5 := h7
                                  clear h7
                                  clear hK K
                                  try simp only [Act.put, List.getElem_toArray, List.getElem_cons_zero, List.getElem_cons_succ, List.setIfInBounds_toArray, List.set_cons_zero, List.set_cons_succ]
                                  refine wpAnyH_ready (rs := [16]) (by kernel_rfl) (by simp) (AllReadyH.cons rfl (fun K hK => ?_) AllReadyH.nil)
                                  go_simp
                                  go_at_call 21
                                  with_reducible refine (flagged_ok (H0.out.below h5.st.bel) HEx.out.le).mono ?_
                                  rintro e wA ⟨rfl, rfl⟩
                                  refine hK.out _ _ hHeld (fun _ => ?_)
                                  clear hK K
                                  try simp only [Act.put, List.getElem_toArray, List.getElem_cons_zero, List.getElem_cons_succ, List.setIfInBounds_toArray, List.set_cons_zero, List.set_cons_succ]
                                  refine wpAnyH_ready (rs := [17]) (by kernel_rfl) (by simp) (AllReadyH.cons rfl (fun K hK => ?_) AllReadyH.nil)
                                  go_simp
                                  go_at_call 17
                                  with_reducible refine (HIH.out rfl _ _ h5.st.bel h5.st.mem).mono ?_
                                  rintro e wB ⟨R6, rfl, hm6, hk6⟩
                                  rw [hL] at hm6
                                  have bz := Blk.kept bz hz hk6
                                  have hz6 := hz.kept hzl hk6
                                  have h6 := h5.kept hk6 hm6
                                  refine hK.out _ _ ⟨⟨h6.c0, h6.x1⟩, hide ⟨R6, h6⟩⟩ (fun hHeld => ?_)
                                  clear h5 hm6 hk6
                                  clear hK K
                                  try simp only [Act.put, List.getElem_toArray, List.getElem_cons_zero, List.getElem_cons_succ, List.setIfInBounds_toArray, List.set_cons_zero, List.set_cons_succ]
                                  refine wpAnyH_done (by kernel_rfl) ?_ _
                                  refine sink_run rfl rfl ?_
                                  unfold plA
                                  have c0 := bz.cell 0
                                  have c1 := bz.cell 1
                                  have c2 := bz.cell 2
                                  have c3 := bz.cell 3
                                  have z0 := bz.frozen 0
                                  have z1 := bz.frozen 1
                                  have z2 := bz.frozen 2
                                  have z3 := bz.frozen 3
                                  obtain ⟨R9, h9⟩ := hHeld.2.out
                                  have hend := hide (And.intro (set4_blk bz rp) (h6.own bz hz6 hgw hgn rp))
                                  clear hHeld h6 bz hz6
                                  simp only [List.getElem?_toArray, List.getElem?_cons_zero, List.getElem?_cons_succ] at c0 c1 c2 c3
                                  go_simp
                                  go_wp2_with fail
                                  go_meet
                                  exact ⟨_, R6, rfl, hend.out.1, hide hend.out.2⟩
                              · skip
                                obtain ⟨R5, h5⟩ := hHeld.2.out
                                go_simp
                                have h7 : (LX w0.heap.size wb kb b P.n L fr gr g8 gb (TB P ws D) w0 w R (some ⟨ge, 0, none⟩) E p gx x R5 (wc.alloc (.cells #[.bool false, .int .i64 0, .int .i64 0, .int .i64 0] 56)).drew) := h5.below ((Below.refl _ _).alloc (Nat.le_refl _) (.cells #[.bool false, .int .i64 0, .int .i64 0, .int .i64 0] 56))
                                have bz : Blk (wc.alloc (.cells #[.bool false, .int .i64 0, .int .i64 0, .int .i64 0] 56)).drew wc.heap.size 56 #[.bool false, .int .i64 0, .int .i64 0, .int .i64 0] := Blk.new wc _ _
                                have hz : Out kb R5 wc.heap.size := h5.st.mem.out (Nat.le_refl _)
                                have hgw : w.heap.size ≤ wc.heap.size := h5.st.kept.size
                                have hgn : wc.heap.size ≠ gb ∧ wc.heap.size ≠ g8 := ⟨fun e => by have : gb < wc.heap.size := h5.st.bb.lt; omega, fun e => by have : g8 < wc.heap.size := h5.st.b8.lt; omega⟩
                                refine hK.out _ _ ⟨⟨h7.c0, h7.x1⟩, hide ⟨R5, h7⟩⟩ (fun hHeld => ?_)
                                clear h5
                                generalize (wc.alloc (.cells #[.bool false, .int .i64 0, .int .i64 0, .int .i64 0] 56)).drew = wz at *
                                generalize wc.heap.size = gp at *
                                have hzl := bz.lt
                                have h5 := h7
                                clear h7
                                clear hK K
                                try simp only [Act.put, List.getElem_toArray, List.getElem_cons_zero, List.getElem_cons_succ, List.setIfInBounds_toArray, List.set_cons_zero, List.set_cons_succ]
                                refine wpAnyH_ready (rs := [7]) (by kernel_rfl) (by simp) (AllReadyH.cons rfl (fun K hK => ?_) AllReadyH.nil)
                                go_simp
                                go_at_call 20
                                with_reducible refine (after_ok (H0.out.below h5.st.bel) few HEx.out.le).mono ?_
                                rintro e wA ⟨rfl, rfl⟩
                                refine hK.out _ _ hHeld (fun _ => ?_)
                                clear hK K
                                try simp only [Act.put, List.getElem_toArray, List.getElem_cons_zero, List.getElem_cons_succ, List.setIfInBounds_toArray, List.set_cons_zero, List.set_cons_succ]
                                refine wpAnyH_ready (rs := [16]) (by kernel_rfl) (by simp) (AllReadyH.cons rfl (fun K hK => ?_) AllReadyH.nil)
                                go_simp
                                go_at_call 21
                                with_reducible refine (flagged_ok (H0.out.below h5.st.bel) HEx.out.le).mono ?_
                                rintro e wA ⟨rfl, rfl⟩
                                refine hK.out _ _ hHeld (fun _ => ?_)
                                clear hK K
                                try simp only [Act.put, List.getElem_toArray, List.getElem_cons_zero, List.getElem_cons_succ, List.setIfInBounds_toArray, List.set_cons_zero, List.set_cons_succ]
                                refine wpAnyH_ready (rs := [17]) (by kernel_rfl) (by simp) (AllReadyH.cons rfl (fun K hK => ?_) AllReadyH.nil)
                                go_simp
                                go_at_call 17
                                with_reducible refine (HIH.out rfl _ _ h5.st.bel h5.st.mem).mono ?_
                                rintro e wB ⟨R6, rfl, hm6, hk6⟩
                                rw [hL] at hm6
                                have bz := Blk.kept bz hz hk6
                                have hz6 := hz.kept hzl hk6
                                have h6 := h5.kept hk6 hm6
                                refine hK.out _ _ ⟨⟨h6.c0, h6.x1⟩, hide ⟨R6, h6⟩⟩ (fun hHeld => ?_)
                                clear h5 hm6 hk6
                                clear hK K
                                try simp only [Act.put, List.getElem_toArray, List.getElem_cons_zero, List.getElem_cons_succ, List.setIfInBounds_toArray, List.set_cons_zero, List.set_cons_succ]
                                refine wpAnyH_done (by kernel_rfl) ?_ _
                                refine sink_run rfl rfl ?_
                                unfold plA
                                have c0 := bz.cell 0
                                have c1 := bz.cell 1
                                have c2 := bz.cell 2
                                have c3 := bz.cell 3
                                have z0 := bz.frozen 0
                                have z1 := bz.frozen 1
                                have z2 := bz.frozen 2
                                have z3 := bz.frozen 3
                                obtain ⟨R9, h9⟩ := hHeld.2.out
                                have hend := hide (And.intro (set4_blk bz rp) (h6.own bz hz6 hgw hgn rp))
                                clear hHeld h6 bz hz6
                                simp only [List.getElem?_toArray, List.getElem?_cons_zero, List.getElem?_cons_succ] at c0 c1 c2 c3
                                go_simp
                                go_wp2_with fail
                                go_meet
                                exact ⟨_, R6, rfl, hend.out.1, hide hend.out.2⟩
                            case rest =>
                              obtain ⟨gp, R5, rfl, bp, HX6⟩ := hcut
                              have l2 : wc.cell? ⟨gp, 2, none⟩ = some (.int .i64 rp.co) := bp.cell 2
                              have l3 : wc.cell? ⟨gp, 3, none⟩ = some (.int .i64 rp.li) := bp.cell 3
                              obtain ⟨-, ⟨rc0, rc1⟩, ⟨rl0, rl1⟩⟩ := hrp
                              obtain ⟨cb0, cb1⟩ := hcb
                              obtain ⟨db0, db1⟩ := hd2
                              have q6 : IntKind.i64.wrap (C + dd + rp.co) = C + dd + rp.co := IntWalk.i64_in _ (by omega)
                              have q7 : IntKind.i64.wrap (1 + rp.li) = 1 + rp.li := IntWalk.i64_in _ (by omega)
                              clear bp q5 HX4
                              go_upto_region 19 with fail
                              go_quiet (fail)
                              go_wp2_with fail
                              go_meet
                              exact ⟨by simp, by simp, R5, hide (HX6.out.drewN _)⟩
                        case rest =>
                          obtain ⟨rfl, rfl, R3, HX5⟩ := hcut
                          clear HX4 HIH
                          have hcc : -(3000000000000000 : Int) ≤ C + dd + (if last P x.en then 0 else rp.co) ∧ C + dd + (if last P x.en then 0 else rp.co) ≤ 3000000000000000 := by
                            split
                            · omega
                            · have := (HPlR.out (by simpa using ‹¬last P x.en = true›)).co
                              omega
                          generalize C + dd + (if last P x.en then 0 else rp.co) = cc at *
                          generalize 1 + (if last P x.en then 0 else rp.li) = nn at *
                          have x1 := HX5.out.x1
                          have y1 : wc.cell? ⟨gb, 1, none⟩ = some (.int .i64 p.en) := HX5.out.st.bb.cell 1
                          have y2 : wc.cell? ⟨gb, 2, none⟩ = some (.int .i64 p.co) := HX5.out.st.bb.cell 2
                          have y3 : wc.cell? ⟨gb, 3, none⟩ = some (.int .i64 p.li) := HX5.out.st.bb.cell 3
                          go_upto_region 20 with fail
                          go_cut [165] (fun v wd => v = .bool (decide (p.en < 0 ∨ cc < p.co ∨ (cc = p.co ∧ nn ≤ p.li))) ∧ wc = wd)
                          case first => as_aux_lemma =>
                            by_cases h1 : p.en < 0
                            · have hr := hide (show decide (p.en < 0 ∨ cc < p.co ∨ (cc = p.co ∧ nn ≤ p.li)) = true by simp [h1])
                              have d1 : decide (p.en < 0) = true := by simpa using h1
                              clear h1
                              go_wp2_with fail
                              go_meet
                              exact ⟨by rw [hr.out], rfl⟩
                            · have d1 : decide (p.en < 0) = false := by simpa using h1
                              by_cases h2 : cc < p.co
                              · have hr := hide (show decide (p.en < 0 ∨ cc < p.co ∨ (cc = p.co ∧ nn ≤ p.li)) = true by simp [h2])
                                have d2 : decide (cc < p.co) = true := by simpa using h2
                                clear h1 h2
                                go_wp2_with fail
                                go_meet
                                exact ⟨by rw [hr.out], rfl⟩
                              · have d2 : decide (cc < p.co) = false := by simpa using h2
                                by_cases h3 : cc = p.co
                                · have d3 : (cc == p.co) = true := by simpa using h3
                                  by_cases h4 : nn ≤ p.li
                                  · have hr := hide (show decide (p.en < 0 ∨ cc < p.co ∨ (cc = p.co ∧ nn ≤ p.li)) = true by simp [h3, h4])
                                    have d4 : decide (nn ≤ p.li) = true := by simpa using h4
                                    clear h1 h2 h3 h4
                                    go_wp2_with fail
                                    go_meet
                                    exact ⟨by rw [hr.out], rfl⟩
                                  · have hr := hide (show decide (p.en < 0 ∨ cc < p.co ∨ (cc = p.co ∧ nn ≤ p.li)) = false by simp [h1, h2, h4])
                                    have d4 : decide (nn ≤ p.li) = false := by simpa using h4
                                    clear h1 h2 h3 h4
                                    go_wp2_with fail
                                    go_meet
                                    exact ⟨by rw [hr.out], rfl⟩
                                · have hr := hide (show decide (p.en < 0 ∨ cc < p.co ∨ (cc = p.co ∧ nn ≤ p.li)) = false by simp [h1, h2, h3])
                                  have d3 : (cc == p.co) = false := by simpa using h3
                                  clear h1 h2 h3
                                  go_wp2_with fail
                                  go_meet
                                  exact ⟨by rw [hr.out], rfl⟩
                          case rest =>
                            obtain ⟨rfl, rfl⟩ := hcut
                            have z1 := HX5.out.st.bb.frozen 1
                            have z2 := HX5.out.st.bb.frozen 2
                            have z3 := HX5.out.st.bb.frozen 3
                            cases hQ : decide (p.en < 0 ∨ cc < p.co ∨ (cc = p.co ∧ nn ≤ p.li)) with
                            | false =>
                              have ha := hide (HStep.out.trans (if_neg (of_decide_eq_false hQ)))
                              clear hQ
                              go_wp2_with fail
                              exact ⟨⟨i + 1, R3, by omega, by simp, by rw [ha.out]; exact hide HX5.out.st⟩, by simp only [intOf]; omega⟩
                            | true =>
                              have ha := hide (HStep.out.trans (if_pos (of_decide_eq_true hQ)))
                              clear hQ
                              go_wp2_with fail
                              exact ⟨⟨i + 1, R3, by omega, by simp, by rw [ha.out]; exact hide (HX5.out.st.best_ _ _ _)⟩, by simp only [intOf]; omega⟩
              · obtain rfl : i = E.length := by omega
                have hp : acc st E E.length = TB P ws D fr key := by
                  rw [acc_all, HT.out, HBu.out]
                rw [hp] at HS
                have HP := hide (show ∃ q, TB P ws D fr key = q from ⟨_, rfl⟩)
                have HPut := hide ((HS.out.drewN 1).put_ hkl)
                have Hd := hide (HS.out.drewN 1)
                have q3 := HS.out.mem.c1
                have k3 := HS.out.mem.ck hfr
                rw [HS.out.row] at k3
                unfold rowVal at k3
                have y0 : wr.cell? ⟨gb, 0, none⟩ = some (.bool true) := HS.out.bb.cell 0
                have y1 : wr.cell? ⟨gb, 1, none⟩ = some (.int .i64 (TB P ws D fr key).en) := HS.out.bb.cell 1
                have y2 : wr.cell? ⟨gb, 2, none⟩ = some (.int .i64 (TB P ws D fr key).co) := HS.out.bb.cell 2
                have y3 : wr.cell? ⟨gb, 3, none⟩ = some (.int .i64 (TB P ws D fr key).li) := HS.out.bb.cell 3
                obtain ⟨K, hcr, hzr⟩ := HS.out.mem.cr HS.out.row
                have r0 : wr.cell? ⟨gr, key * 4, none⟩ = some (memV K (TB P ws D fr) key 0) := hcr key 0 hkl (by omega)
                have r1 := hcr key 1 hkl (by omega)
                have r2 := hcr key 2 hkl (by omega)
                have r3 := hcr key 3 hkl (by omega)
                have z0 := hzr (key * 4)
                have z1 := hzr (key * 4 + 1)
                have z2 := hzr (key * 4 + 2)
                have z3 := hzr (key * 4 + 3)
                generalize memV K (TB P ws D fr) key 0 = u0 at *
                generalize memV K (TB P ws D fr) key 1 = u1 at *
                generalize memV K (TB P ws D fr) key 2 = u2 at *
                generalize memV K (TB P ws D fr) key 3 = u3 at *
                clear hcr hzr HS hp HP HE HBu Hstp hlt hi
                generalize hpq : TB P ws D fr key = p at *
                go_upto_region 23 with fail
                go_cut [] (fun wc => Hid (LSt w0.heap.size wb kb b P.n L fr gr g8 gb (TB P ws D) w0 w R Ae E p R2 wc))
                case first => as_aux_lemma =>
                  refine wp_region_sink (S := fun w' : World => (w'.cell? ⟨wb, 1, none⟩ = some (.slice (some ⟨kb, 0, none⟩) (P.n + 1) (P.n + 1)) ∧ w'.cell? ⟨kb, fr, none⟩ = some (.slice (some ⟨gr, 0, none⟩) (2 * L) (2 * L))) ∧ w'.cell? ⟨gb, 0, none⟩ = some (.bool true) ∧ w'.cell? ⟨gb, 1, none⟩ = some (.int .i64 p.en) ∧ w'.cell? ⟨gb, 2, none⟩ = some (.int .i64 p.co) ∧ w'.cell? ⟨gb, 3, none⟩ = some (.int .i64 p.li)) 10 (by kernel_rfl) (by kernel_rfl) (by kernel_rfl) (by kernel_rfl) ?hST (fun hHeld => ?_)
                  case hST => exact ⟨⟨q3, k3⟩, y0, y1, y2, y3⟩
                  simp only [List.take_succ_cons, List.take_zero]
                  refine wpAnyH_take (i := 0) (v := ?vTn0) rfl (by kernel_rfl) (by kernel_rfl) (by kernel_rfl) (fun _ _ _ h => h) (Or.inl ⟨by rfl, ?hyTn0⟩) (by assumption) ?_
                  case hyTn0 => (intro w hSw; (try dsimp only at hSw); go_simp; try with_reducible rfl)
                  try simp only [Act.put, List.getElem_toArray, List.getElem_cons_zero, List.setIfInBounds_toArray, List.set_cons_zero, List.set_cons_succ]
                  refine wpAnyH_take (i := 1) (v := ?vTn1) rfl (by kernel_rfl) (by kernel_rfl) (by kernel_rfl) (fun _ _ _ h => h) (Or.inl ⟨by rfl, ?hyTn1⟩) (by assumption) ?_
                  case hyTn1 => (intro w hSw; (try dsimp only at hSw); go_simp; try with_reducible rfl)
                  try simp only [Act.put, List.getElem_toArray, List.getElem_cons_zero, List.getElem_cons_succ, List.setIfInBounds_toArray, List.set_cons_zero, List.set_cons_succ]
                  refine wpAnyH_take (i := 2) (v := ?vTn2) rfl (by kernel_rfl) (by kernel_rfl) (by kernel_rfl) (fun _ _ _ h => h) (Or.inl ⟨by rfl, ?hyTn2⟩) (by assumption) ?_
                  case hyTn2 => (intro w hSw; (try dsimp only at hSw); go_simp; try with_reducible rfl)
                  try simp only [Act.put, List.getElem_toArray, List.getElem_cons_zero, List.getElem_cons_succ, List.setIfInBounds_toArray, List.set_cons_zero, List.set_cons_succ]
                  refine wpAnyH_take (i := 3) (v := ?vTn3) rfl (by kernel_rfl) (by kernel_rfl) (by kernel_rfl) (fun _ _ _ h => h) (Or.inl ⟨by rfl, ?hyTn3⟩) (by assumption) ?_
                  case hyTn3 => (intro w hSw; (try dsimp only at hSw); go_simp; try with_reducible rfl)
                  try simp only [Act.put, List.getElem_toArray, List.getElem_cons_zero, List.getElem_cons_succ, List.setIfInBounds_toArray, List.set_cons_zero, List.set_cons_succ]
                  refine wpAnyH_take (i := 4) (v := ?vTn4) rfl (by kernel_rfl) (by kernel_rfl) (by kernel_rfl) (fun _ _ _ h => h) (Or.inl ⟨by rfl, ?hyTn4⟩) (by assumption) ?_
                  case hyTn4 => (intro w hSw; (try dsimp only at hSw); go_simp; try with_reducible rfl)
                  try simp only [Act.put, List.getElem_toArray, List.getElem_cons_zero, List.getElem_cons_succ, List.setIfInBounds_toArray, List.set_cons_zero, List.set_cons_succ]
                  refine wpAnyH_take (i := 5) (v := ?vTn5) rfl (by kernel_rfl) (by kernel_rfl) (by kernel_rfl) (fun _ _ _ h => h) (Or.inl ⟨by rfl, ?hyTn5⟩) (by assumption) ?_
                  case hyTn5 => (intro w hSw; (try dsimp only at hSw); go_simp; try with_reducible rfl)
                  try simp only [Act.put, List.getElem_toArray, List.getElem_cons_zero, List.getElem_cons_succ, List.setIfInBounds_toArray, List.set_cons_zero, List.set_cons_succ]
                  refine wpAnyH_take (i := 6) (v := ?vTn6) rfl (by kernel_rfl) (by kernel_rfl) (by kernel_rfl) (fun _ _ _ h => h) (Or.inl ⟨by rfl, ?hyTn6⟩) (by assumption) ?_
                  case hyTn6 => (intro w hSw; (try dsimp only at hSw); go_simp; try with_reducible rfl)
                  try simp only [Act.put, List.getElem_toArray, List.getElem_cons_zero, List.getElem_cons_succ, List.setIfInBounds_toArray, List.set_cons_zero, List.set_cons_succ]
                  refine wpAnyH_take (i := 7) (v := ?vTn7) rfl (by kernel_rfl) (by kernel_rfl) (by kernel_rfl) (fun _ _ _ h => h) (Or.inl ⟨by rfl, ?hyTn7⟩) (by assumption) ?_
                  case hyTn7 => (intro w hSw; (try dsimp only at hSw); go_simp; try with_reducible rfl)
                  try simp only [Act.put, List.getElem_toArray, List.getElem_cons_zero, List.getElem_cons_succ, List.setIfInBounds_toArray, List.set_cons_zero, List.set_cons_succ]
                  refine wpAnyH_take (i := 8) (v := ?vTn8) rfl (by kernel_rfl) (by kernel_rfl) (by kernel_rfl) (fun _ _ _ h => h) (Or.inl ⟨by rfl, ?hyTn8⟩) (by assumption) ?_
                  case hyTn8 => (intro w hSw; (try dsimp only at hSw); go_simp; try with_reducible rfl)
                  try simp only [Act.put, List.getElem_toArray, List.getElem_cons_zero, List.getElem_cons_succ, List.setIfInBounds_toArray, List.set_cons_zero, List.set_cons_succ]
                  refine wpAnyH_take (i := 9) (v := ?vTn9) rfl (by kernel_rfl) (by kernel_rfl) (by kernel_rfl) (fun _ _ _ h => h) (Or.inl ⟨by rfl, ?hyTn9⟩) (by assumption) ?_
                  case hyTn9 => (intro w hSw; (try dsimp only at hSw); go_simp; try with_reducible rfl)
                  try simp only [Act.put, List.getElem_toArray, List.getElem_cons_zero, List.getElem_cons_succ, List.setIfInBounds_toArray, List.set_cons_zero, List.set_cons_succ]
                  refine wpAnyH_done (by kernel_rfl) ?_ _
                  refine sink_run rfl rfl ?_
                  go_simp
                  go_wp2_with fail
                  go_meet
                  exact HPut
                case rest =>
                  clear q3 k3 y0 y1 y2 y3 r0 r1 r2 r3 z0 z1 z2 z3 HPut Hd
                  have s0 : wc.cell? ⟨gb, 0, none⟩ = some (.bool true) := hcut.out.bb.cell 0
                  have s1 : wc.cell? ⟨gb, 1, none⟩ = some (.int .i64 p.en) := hcut.out.bb.cell 1
                  have s2 : wc.cell? ⟨gb, 2, none⟩ = some (.int .i64 p.co) := hcut.out.bb.cell 2
                  have s3 : wc.cell? ⟨gb, 3, none⟩ = some (.int .i64 p.li) := hcut.out.bb.cell 3
                  have t0 : wc.cell? ⟨g8, 0, none⟩ = some (.bool false) := hcut.out.b8.cell 0
                  have t1 : wc.cell? ⟨g8, 1, none⟩ = some (.int .i64 0) := hcut.out.b8.cell 1
                  have t2 : wc.cell? ⟨g8, 2, none⟩ = some (.int .i64 0) := hcut.out.b8.cell 2
                  have t3 : wc.cell? ⟨g8, 3, none⟩ = some (.int .i64 0) := hcut.out.b8.cell 3
                  have z0 := hcut.out.b8.frozen 0
                  have z1 := hcut.out.b8.frozen 1
                  have z2 := hcut.out.b8.frozen 2
                  have z3 := hcut.out.b8.frozen 3
                  have Hq := hide (set4_cells hcut.out.b8 p)
                  have Hend := hide (hcut.out.mem.set4 hcut.out.b8 hcut.out.o8 hcut.out.kept hcut.out.ne.2.2.1 p)
                  clear hcut
                  go_wp2_with fail
                  obtain ⟨e0, e1, e2, e3⟩ := Hq.out
                  refine bodyPost_ret (v := plA p) (by simp [results, Try.results17, go_sem, e0, e1, e2, e3, plA]) rfl ⟨R2, by rw [HT.out], by rw [hL]; exact Hend.out.1, Hend.out.2⟩

theorem best_ok (h0 : Mk w0 b P ws D Ap Aw A2 A3 A4 A5 cp cw c2 c3 c4 c5) (hv : VP P) (hws : 0 < ws.length) (hw2 : ws.length ≤ 1000) (hww : ∀ x, x ∈ ws → 0 ≤ x ∧ x ≤ 400000) (hD : 0 ≤ D ∧ D ≤ 5000) : ∀ (m fr : Nat), P.n - fr = m → fr ≤ P.n → ∀ (k : Nat) (fl : Bool) (w : World) (R : Nat → Option Nat), k ≤ 100000 → Below w0.heap.size w0 w → Mem w w0.heap.size wb kb b P.n ws.length (TB P ws D) R →
    Calls Try.prog 17 #[.pointer (some ⟨wb, 0, none⟩), .int .i64 fr, .int .i64 k, .bool fl] w (BestPost P ws D w0.heap.size wb kb b R (B P ws D fr (min k (ws.length - 1)) fl) w) := by
  intro m
  induction m using Nat.strongRecOn with
  | _ m ih =>
    intro fr hm hfr k fl w R hk hb hmm
    exact best_step h0 hv hws hw2 hww hD fr hfr k fl w R hk hb hmm (hide fun fr' h1 h2 k' fl' w' R' hk' hb' hm' => ih (P.n - fr') (by omega) fr' rfl h2 k' fl' w' R' hk' hb' hm')
end
end Go.Proofs.Ytmjhmcjlbcadaaa.Ln
