/- The contract of slices.Reverse at points. -/
import Derived.Test.YtegmokdhfmgdgaaRtGrid
namespace Go.Proofs.Ytegmokdhfmgdgaa.Rt
open Go.RowKit Go.Frm Go.Frm.Rt

/-- points in memory -/
def ptF (P : Nat → Pt) (i j : Nat) : Value := match j with
  | 0 => .int .i64 (P i).1
  | _ => .int .i64 (P i).2
abbrev put2 (w : World) (g o : Nat) (v0 v1 : Value) : World := (w.setCell ⟨g, o, none⟩ v0).setCell ⟨g, o + 1, none⟩ v1
theorem far2n {w : World} {g k p m : Nat} {v v0 v1 : Value} (h : w.cell? ⟨g, p * 2 + m, none⟩ = some v) (hkp : p ≠ k) (hm : m < 2) : (put2 w g (k * 2) v0 v1).drew.cell? ⟨g, p * 2 + m, none⟩ = some v :=
  (cell_drew _ _).trans (cell_other (cell_other h (by omega)) (by omega))
theorem far2n0 {w : World} {g k p : Nat} {v v0 v1 : Value} (h : w.cell? ⟨g, p * 2, none⟩ = some v) (hkp : p ≠ k) : (put2 w g (k * 2) v0 v1).drew.cell? ⟨g, p * 2, none⟩ = some v := far2n (m := 0) h hkp (by decide)
def rv (n s i : Nat) : Nat := if i < s ∨ n < i + 1 + s then n - 1 - i else i
theorem own_put2 {w : World} {base n c g : Nat} {P : Nat → Pt} (h : w.ownsRow base 24 2 (.slice (some ⟨g, 0, none⟩) n c) n (rowF n 2 (ptF P))) (i : Nat) (p : Pt) :
    (put2 w g (i * 2) (.int .i64 p.1) (.int .i64 p.2)).ownsRow base 24 2 (.slice (some ⟨g, 0, none⟩) n c) n (rowF n 2 (ptF (upd P i p))) := by
  have h6 := own_storeF (own_storeF h i (j := 0) (by omega) (.int .i64 p.1)) i (j := 1) (by omega) (.int .i64 p.2)
  rw [rowF_congr (g := ptF (upd P i p)) (fun a j ha hj => by
    have e6 : j = 0 ∨ j = 1 := by omega
    unfold upd2 ptF upd
    rcases e6 with rfl | rfl <;> by_cases h1 : a = i <;> simp [h1])] at h6
  exact h6
theorem own_pt {w : World} {base n c g : Nat} {P : Nat → Pt} (h : w.ownsRow base 24 2 (.slice (some ⟨g, 0, none⟩) n c) n (rowF n 2 (ptF P))) {i : Nat} (hi : i < n) : w.cell? ⟨g, i * 2, none⟩ = some (.int .i64 (P i).1) ∧ w.cell? ⟨g, i * 2 + 1, none⟩ = some (.int .i64 (P i).2) :=
  ⟨own_cellF h (j := 0) hi (by omega), own_cellF h (j := 1) hi (by omega)⟩
theorem own_pts_congr {w : World} {base n c g : Nat} {P Q : Nat → Pt} (h : w.ownsRow base 24 2 (.slice (some ⟨g, 0, none⟩) n c) n (rowF n 2 (ptF P))) (e : ∀ i, i < n → P i = Q i) : w.ownsRow base 24 2 (.slice (some ⟨g, 0, none⟩) n c) n (rowF n 2 (ptF Q)) := by
  rw [rowF_congr (g := ptF Q) (fun i j hi _ => by unfold ptF; rw [e i hi])] at h
  exact h
theorem rv_step (P : Nat → Pt) {n s : Nat} (h : s + s + 1 < n) (i : Nat) (hi : i < n) : upd (upd (fun i => P (rv n s i)) s (P (rv n s (n - 1 - s)))) (n - 1 - s) (P (rv n s s)) i = P (rv n (s + 1) i) := by
  unfold upd
  by_cases h1 : i = n - 1 - s
  · rw [if_pos h1]
    congr 1
    unfold rv
    split <;> split <;> omega
  · rw [if_neg h1]
    by_cases h2 : i = s
    · rw [if_pos h2]
      congr 1
      unfold rv
      split <;> split <;> omega
    · rw [if_neg h2]
      show P (rv n s i) = P (rv n (s + 1) i)
      congr 1
      unfold rv
      split <;> split <;> omega
theorem rv_end {n s i : Nat} (h : n ≤ s + s + 1) (hi : i < n) : rv n s i = n - 1 - i := by unfold rv; split <;> omega
theorem rv_zero {n i : Nat} (hi : i < n) : rv n 0 i = i := by unfold rv; split <;> omega
set_option maxRecDepth 100000 in
set_option maxHeartbeats 4000000 in
theorem reverse_ok {w : World} {base g n c : Nat} {P : Nat → Pt} (h : w.ownsRow base 24 2 (.slice (some ⟨g, 0, none⟩) n c) n (rowF n 2 (ptF P))) (hn : n ≤ 10000000) :
    Calls Try.prog 36 #[.slice (some ⟨g, 0, none⟩) n c] w fun e w' => e = .returned (.tuple #[]) ∧ w'.ownsRow base 24 2 (.slice (some ⟨g, 0, none⟩) n c) n (rowF n 2 (ptF fun i => P (n - 1 - i))) ∧ Chg (Is g) w w' := by
  have H0 := hide (own_pts_congr h (Q := fun i => P (rv n 0 i)) (fun i hi => by show P i = P (rv n 0 i); rw [rv_zero hi]))
  have k0 : (n : Int) - 1 ≤ 10000000 := by omega
  have k1 : (-1 : Int) ≤ (n : Int) - 1 := by omega
  have H1 := hide (Chg.refl (Is g) w)
  clear h
  go_enter Try.func36, Try.ntmps36
  go_wp2_with fail
  go_loopw [2, 3] (fun a c3 wr => ∃ s : Nat, a = .int .i64 s ∧ c3 = .int .i64 ((n : Int) - 1 - s) ∧ s ≤ n ∧ Hid (wr.ownsRow base 24 2 (.slice (some ⟨g, 0, none⟩) n c) n (rowF n 2 (ptF fun i => P (rv n s i)))) ∧ Hid (Chg (Is g) w wr)) (fun a _ _ => n - (intOf a).toNat)
  case atStart => exact ⟨0, rfl, by simp, Nat.zero_le _, H0, H1⟩
  case round =>
    clear H0 H1
    obtain ⟨wo, rfl⟩ : ∃ wx : World, wx = wr := ⟨_, rfl⟩
    obtain ⟨s, rfl, rfl, hs, HO, HC⟩ := hrel
    by_cases hlt : s + s + 1 < n
    · obtain ⟨m, Hm⟩ : ∃ m : Nat, Hid (m = n - 1 - s) := ⟨_, rfl⟩
      have hm := Hm.out
      have e1 : (n : Int) - 1 - s = (m : Int) := by omega
      have hml : m < n := by omega
      have hsl : s < n := by omega
      have hsm : s < m := by omega
      have k2 : decide ((s : Int) < (m : Int)) = true := decide_eq_true (by omega)
      have k3 : (s : Int) < (m : Int) := by omega
      have k4 : (0 : Int) ≤ (s : Int) := by omega
      have k5 : (m : Int) < (n : Int) := by omega
      have k6 : (s : Int) < (n : Int) := by omega
      have k7 : (0 : Int) ≤ (m : Int) := by omega
      have HE : Hid ((n : Int) - 1 - ((s + 1 : Nat) : Int) = (m : Int) - 1) := hide (by omega)
      have HS := hide (rv_step P hlt)
      rw [← Hm.out] at HS
      rw [e1]
      obtain ⟨kc0, kc1⟩ := own_pt HO.out hsl
      obtain ⟨mc0, mc1⟩ := own_pt HO.out hml
      have hset := own_put2 (own_put2 HO.out s (P (rv n s m))) m (P (rv n s s))
      have HO2 := hide (own_pts_congr hset HS.out)
      have hcg := HC.out
      have HC2 := hide ((((hcg.setCell (p := ⟨g, s * 2, none⟩) (.inl rfl) (.int .i64 (P (rv n s m)).1)).setCell (p := ⟨g, s * 2 + 1, none⟩) (.inl rfl) (.int .i64 (P (rv n s m)).2)).setCell (p := ⟨g, m * 2, none⟩) (.inl rfl) (.int .i64 (P (rv n s s)).1)).setCell (p := ⟨g, m * 2 + 1, none⟩) (.inl rfl) (.int .i64 (P (rv n s s)).2))
      have hz := HO.out
      have fk0 := World.ownsRow.frozenAt hz (s * 2)
      have fk1 := World.ownsRow.frozenAt hz (s * 2 + 1)
      have fm0 := World.ownsRow.frozenAt hz (m * 2)
      have fm1 := World.ownsRow.frozenAt hz (m * 2 + 1)
      obtain ⟨kx, Hkx⟩ : ∃ z : Int, Hid (z = (P (rv n s s)).1) := ⟨_, rfl⟩
      obtain ⟨ky, Hky⟩ : ∃ z : Int, Hid (z = (P (rv n s s)).2) := ⟨_, rfl⟩
      obtain ⟨mx, Hmx⟩ : ∃ z : Int, Hid (z = (P (rv n s m)).1) := ⟨_, rfl⟩
      obtain ⟨my, Hmy⟩ : ∃ z : Int, Hid (z = (P (rv n s m)).2) := ⟨_, rfl⟩
      rw [← Hkx.out] at kc0
      rw [← Hky.out] at kc1
      rw [← Hmx.out] at mc0
      rw [← Hmy.out] at mc1
      rw [← Hkx.out, ← Hky.out, ← Hmx.out, ← Hmy.out] at HO2 HC2
      have hmk : m ≠ s := by omega
      clear hset hcg hz HO HC HS hm e1 hlt
      go_upto_region 3 with fail
      refine wp_region_listed (S := fun l w' => (l.getD 13 true = false → w'.cell? ⟨g, s * 2, none⟩ = some (.int .i64 kx)) ∧ (l.getD 13 true = false → w'.cell? ⟨g, s * 2 + 1, none⟩ = some (.int .i64 ky)) ∧ (l.getD 15 true = false → w'.cell? ⟨g, m * 2, none⟩ = some (.int .i64 mx)) ∧ (l.getD 15 true = false → w'.cell? ⟨g, m * 2 + 1, none⟩ = some (.int .i64 my))) (by kernel_rfl) ?hSS (fun hHeld => ?_)
      case hSS => exact ⟨fun _ => kc0, fun _ => kc1, fun _ => mc0, fun _ => mc1⟩
      refine wpAnyL_take (i := 0) (v := ?vSn0) rfl (by kernel_rfl) (by kernel_rfl) (by kernel_rfl) (by kernel_rfl) (fun _ _ _ h => h) ?hsSn0 (Or.inl ⟨by rfl, ?hySn0⟩) (by assumption) (fun hHeld => ?_)
      case hsSn0 => (intro l w; (try dsimp only); simp only [Go.getD_set_ne true (show (0 : Nat) ≠ 13 by decide), Go.getD_set_ne true (show (0 : Nat) ≠ 15 by decide)])
      case hySn0 => (intro w hSw; obtain ⟨l, hl, hc, hSw⟩ := hSw; (try dsimp only at hSw); obtain ⟨cS0, cS1, cS2, cS3⟩ := hSw; clear hc hl; go_simp; try with_reducible rfl)
      try simp only [Act.put, List.getElem_toArray, List.getElem_cons_zero, List.getElem_cons_succ, List.setIfInBounds_toArray, List.set_cons_zero, List.set_cons_succ]
      refine wpAnyL_take (i := 1) (v := ?vSn1) rfl (by kernel_rfl) (by kernel_rfl) (by kernel_rfl) (by kernel_rfl) (fun _ _ _ h => h) ?hsSn1 (Or.inl ⟨by rfl, ?hySn1⟩) (by assumption) (fun hHeld => ?_)
      case hsSn1 => (intro l w; (try dsimp only); simp only [Go.getD_set_ne true (show (1 : Nat) ≠ 13 by decide), Go.getD_set_ne true (show (1 : Nat) ≠ 15 by decide)])
      case hySn1 => (intro w hSw; obtain ⟨l, hl, hc, hSw⟩ := hSw; (try dsimp only at hSw); obtain ⟨cS0, cS1, cS2, cS3⟩ := hSw; clear hc hl; go_simp; try with_reducible rfl)
      try simp only [Act.put, List.getElem_toArray, List.getElem_cons_zero, List.getElem_cons_succ, List.setIfInBounds_toArray, List.set_cons_zero, List.set_cons_succ]
      refine wpAnyL_take (i := 2) (v := ?vSn2) rfl (by kernel_rfl) (by kernel_rfl) (by kernel_rfl) (by kernel_rfl) (fun _ _ _ h => h) ?hsSn2 (Or.inl ⟨by rfl, ?hySn2⟩) (by assumption) (fun hHeld => ?_)
      case hsSn2 => (intro l w; (try dsimp only); simp only [Go.getD_set_ne true (show (2 : Nat) ≠ 13 by decide), Go.getD_set_ne true (show (2 : Nat) ≠ 15 by decide)])
      case hySn2 => (intro w hSw; obtain ⟨l, hl, hc, hSw⟩ := hSw; (try dsimp only at hSw); obtain ⟨cS0, cS1, cS2, cS3⟩ := hSw; clear hc hl; go_simp; try with_reducible rfl)
      try simp only [Act.put, List.getElem_toArray, List.getElem_cons_zero, List.getElem_cons_succ, List.setIfInBounds_toArray, List.set_cons_zero, List.set_cons_succ]
      refine wpAnyL_take (i := 3) (v := ?vSn3) rfl (by kernel_rfl) (by kernel_rfl) (by kernel_rfl) (by kernel_rfl) (fun _ _ _ h => h) ?hsSn3 (Or.inl ⟨by rfl, ?hySn3⟩) (by assumption) (fun hHeld => ?_)
      case hsSn3 => (intro l w; (try dsimp only); simp only [Go.getD_set_ne true (show (3 : Nat) ≠ 13 by decide), Go.getD_set_ne true (show (3 : Nat) ≠ 15 by decide)])
      case hySn3 => (intro w hSw; obtain ⟨l, hl, hc, hSw⟩ := hSw; (try dsimp only at hSw); obtain ⟨cS0, cS1, cS2, cS3⟩ := hSw; clear hc hl; go_simp; try with_reducible rfl)
      try simp only [Act.put, List.getElem_toArray, List.getElem_cons_zero, List.getElem_cons_succ, List.setIfInBounds_toArray, List.set_cons_zero, List.set_cons_succ]
      refine wpAnyL_take (i := 4) (v := ?vSn4) rfl (by kernel_rfl) (by kernel_rfl) (by kernel_rfl) (by kernel_rfl) (fun _ _ _ h => h) ?hsSn4 (Or.inl ⟨by rfl, ?hySn4⟩) (by assumption) (fun hHeld => ?_)
      case hsSn4 => (intro l w; (try dsimp only); simp only [Go.getD_set_ne true (show (4 : Nat) ≠ 13 by decide), Go.getD_set_ne true (show (4 : Nat) ≠ 15 by decide)])
      case hySn4 => (intro w hSw; obtain ⟨l, hl, hc, hSw⟩ := hSw; (try dsimp only at hSw); obtain ⟨cS0, cS1, cS2, cS3⟩ := hSw; clear hc hl; go_simp; try with_reducible rfl)
      try simp only [Act.put, List.getElem_toArray, List.getElem_cons_zero, List.getElem_cons_succ, List.setIfInBounds_toArray, List.set_cons_zero, List.set_cons_succ]
      refine wpAnyL_take (i := 5) (v := ?vSn5) rfl (by kernel_rfl) (by kernel_rfl) (by kernel_rfl) (by kernel_rfl) (fun _ _ _ h => h) ?hsSn5 (Or.inl ⟨by rfl, ?hySn5⟩) (by assumption) (fun hHeld => ?_)
      case hsSn5 => (intro l w; (try dsimp only); simp only [Go.getD_set_ne true (show (5 : Nat) ≠ 13 by decide), Go.getD_set_ne true (show (5 : Nat) ≠ 15 by decide)])
      case hySn5 => (intro w hSw; obtain ⟨l, hl, hc, hSw⟩ := hSw; (try dsimp only at hSw); obtain ⟨cS0, cS1, cS2, cS3⟩ := hSw; clear hc hl; go_simp; try with_reducible rfl)
      try simp only [Act.put, List.getElem_toArray, List.getElem_cons_zero, List.getElem_cons_succ, List.setIfInBounds_toArray, List.set_cons_zero, List.set_cons_succ]
      refine wpAnyL_take (i := 6) (v := ?vSn6) rfl (by kernel_rfl) (by kernel_rfl) (by kernel_rfl) (by kernel_rfl) (fun _ _ _ h => h) ?hsSn6 (Or.inl ⟨by rfl, ?hySn6⟩) (by assumption) (fun hHeld => ?_)
      case hsSn6 => (intro l w; (try dsimp only); simp only [Go.getD_set_ne true (show (6 : Nat) ≠ 13 by decide), Go.getD_set_ne true (show (6 : Nat) ≠ 15 by decide)])
      case hySn6 => (intro w hSw; obtain ⟨l, hl, hc, hSw⟩ := hSw; (try dsimp only at hSw); obtain ⟨cS0, cS1, cS2, cS3⟩ := hSw; clear hc hl; go_simp; try with_reducible rfl)
      try simp only [Act.put, List.getElem_toArray, List.getElem_cons_zero, List.getElem_cons_succ, List.setIfInBounds_toArray, List.set_cons_zero, List.set_cons_succ]
      refine wpAnyL_take (i := 7) (v := ?vSn7) rfl (by kernel_rfl) (by kernel_rfl) (by kernel_rfl) (by kernel_rfl) (fun _ _ _ h => h) ?hsSn7 (Or.inl ⟨by rfl, ?hySn7⟩) (by assumption) (fun hHeld => ?_)
      case hsSn7 => (intro l w; (try dsimp only); simp only [Go.getD_set_ne true (show (7 : Nat) ≠ 13 by decide), Go.getD_set_ne true (show (7 : Nat) ≠ 15 by decide)])
      case hySn7 => (intro w hSw; obtain ⟨l, hl, hc, hSw⟩ := hSw; (try dsimp only at hSw); obtain ⟨cS0, cS1, cS2, cS3⟩ := hSw; replace cS2 := cS2 (hc.waits 24 (by decide +kernel) hl); replace cS3 := cS3 (hc.waits 24 (by decide +kernel) hl); clear hc hl; go_simp; try with_reducible rfl)
      try simp only [Act.put, List.getElem_toArray, List.getElem_cons_zero, List.getElem_cons_succ, List.setIfInBounds_toArray, List.set_cons_zero, List.set_cons_succ]
      refine wpAnyL_take (i := 8) (v := ?vSn8) rfl (by kernel_rfl) (by kernel_rfl) (by kernel_rfl) (by kernel_rfl) (fun _ _ _ h => h) ?hsSn8 (Or.inl ⟨by rfl, ?hySn8⟩) (by assumption) (fun hHeld => ?_)
      case hsSn8 => (intro l w; (try dsimp only); simp only [Go.getD_set_ne true (show (8 : Nat) ≠ 13 by decide), Go.getD_set_ne true (show (8 : Nat) ≠ 15 by decide)])
      case hySn8 => (intro w hSw; obtain ⟨l, hl, hc, hSw⟩ := hSw; (try dsimp only at hSw); obtain ⟨cS0, cS1, cS2, cS3⟩ := hSw; clear hc hl; go_simp; try with_reducible rfl)
      try simp only [Act.put, List.getElem_toArray, List.getElem_cons_zero, List.getElem_cons_succ, List.setIfInBounds_toArray, List.set_cons_zero, List.set_cons_succ]
      refine wpAnyL_take (i := 9) (v := ?vSn9) rfl (by kernel_rfl) (by kernel_rfl) (by kernel_rfl) (by kernel_rfl) (fun _ _ _ h => h) ?hsSn9 (Or.inl ⟨by rfl, ?hySn9⟩) (by assumption) (fun hHeld => ?_)
      case hsSn9 => (intro l w; (try dsimp only); simp only [Go.getD_set_ne true (show (9 : Nat) ≠ 13 by decide), Go.getD_set_ne true (show (9 : Nat) ≠ 15 by decide)])
      case hySn9 => (intro w hSw; obtain ⟨l, hl, hc, hSw⟩ := hSw; (try dsimp only at hSw); obtain ⟨cS0, cS1, cS2, cS3⟩ := hSw; clear hc hl; go_simp; try with_reducible rfl)
      try simp only [Act.put, List.getElem_toArray, List.getElem_cons_zero, List.getElem_cons_succ, List.setIfInBounds_toArray, List.set_cons_zero, List.set_cons_succ]
      refine wpAnyL_take (i := 10) (v := ?vSn10) rfl (by kernel_rfl) (by kernel_rfl) (by kernel_rfl) (by kernel_rfl) (fun _ _ _ h => h) ?hsSn10 (Or.inl ⟨by rfl, ?hySn10⟩) (by assumption) (fun hHeld => ?_)
      case hsSn10 => (intro l w; (try dsimp only); simp only [Go.getD_set_ne true (show (10 : Nat) ≠ 13 by decide), Go.getD_set_ne true (show (10 : Nat) ≠ 15 by decide)])
      case hySn10 => (intro w hSw; obtain ⟨l, hl, hc, hSw⟩ := hSw; (try dsimp only at hSw); obtain ⟨cS0, cS1, cS2, cS3⟩ := hSw; clear hc hl; go_simp; try with_reducible rfl)
      try simp only [Act.put, List.getElem_toArray, List.getElem_cons_zero, List.getElem_cons_succ, List.setIfInBounds_toArray, List.set_cons_zero, List.set_cons_succ]
      refine wpAnyL_take (i := 11) (v := ?vSn11) rfl (by kernel_rfl) (by kernel_rfl) (by kernel_rfl) (by kernel_rfl) (fun _ _ _ h => h) ?hsSn11 (Or.inl ⟨by rfl, ?hySn11⟩) (by assumption) (fun hHeld => ?_)
      case hsSn11 => (intro l w; (try dsimp only); simp only [Go.getD_set_ne true (show (11 : Nat) ≠ 13 by decide), Go.getD_set_ne true (show (11 : Nat) ≠ 15 by decide)])
      case hySn11 => (intro w hSw; obtain ⟨l, hl, hc, hSw⟩ := hSw; (try dsimp only at hSw); obtain ⟨cS0, cS1, cS2, cS3⟩ := hSw; replace cS0 := cS0 (hc.waits 24 (by decide +kernel) hl); replace cS1 := cS1 (hc.waits 24 (by decide +kernel) hl); clear hc hl; go_simp; try with_reducible rfl)
      try simp only [Act.put, List.getElem_toArray, List.getElem_cons_zero, List.getElem_cons_succ, List.setIfInBounds_toArray, List.set_cons_zero, List.set_cons_succ]
      refine wpAnyL_take (i := 12) (v := ?vSn12) rfl (by kernel_rfl) (by kernel_rfl) (by kernel_rfl) (by kernel_rfl) (fun _ _ _ h => h) ?hsSn12 (Or.inl ⟨by rfl, ?hySn12⟩) (by assumption) (fun hHeld => ?_)
      case hsSn12 => (intro l w; (try dsimp only); simp only [Go.getD_set_ne true (show (12 : Nat) ≠ 13 by decide), Go.getD_set_ne true (show (12 : Nat) ≠ 15 by decide)])
      case hySn12 => (intro w hSw; obtain ⟨l, hl, hc, hSw⟩ := hSw; (try dsimp only at hSw); obtain ⟨cS0, cS1, cS2, cS3⟩ := hSw; clear hc hl; go_simp; try with_reducible rfl)
      try simp only [Act.put, List.getElem_toArray, List.getElem_cons_zero, List.getElem_cons_succ, List.setIfInBounds_toArray, List.set_cons_zero, List.set_cons_succ]
      refine wpAnyL_ready (rs := [13]) (by kernel_rfl) (by simp) (AllReadyL.cons rfl (fun K hK => ?_) AllReadyL.nil)
      go_simp
      refine hK.out _ _ ?hkSn13 (fun hHeld => ?_)
      case hkSn13 => exact ⟨fun h => absurd h (by first | decide | kernel_rfl), fun h => absurd h (by first | decide | kernel_rfl), fun _ => far2n0 (hHeld.2.2.1 (by first | decide | kernel_rfl)) hmk, fun _ => far2n (m := 1) (hHeld.2.2.2 (by first | decide | kernel_rfl)) hmk (by decide)⟩
      clear hK K
      try simp only [Act.put, List.getElem_toArray, List.getElem_cons_zero, List.getElem_cons_succ, List.setIfInBounds_toArray, List.set_cons_zero, List.set_cons_succ]
      refine wpAnyL_take (i := 14) (v := ?vSn14) rfl (by kernel_rfl) (by kernel_rfl) (by kernel_rfl) (by kernel_rfl) (fun _ _ _ h => h) ?hsSn14 (Or.inl ⟨by rfl, ?hySn14⟩) (by assumption) (fun hHeld => ?_)
      case hsSn14 => (intro l w; (try dsimp only); simp only [Go.getD_set_ne true (show (14 : Nat) ≠ 13 by decide), Go.getD_set_ne true (show (14 : Nat) ≠ 15 by decide)])
      case hySn14 => (intro w hSw; obtain ⟨l, hl, hc, hSw⟩ := hSw; (try dsimp only at hSw); obtain ⟨cS0, cS1, cS2, cS3⟩ := hSw; clear hc hl; go_simp; try with_reducible rfl)
      try simp only [Act.put, List.getElem_toArray, List.getElem_cons_zero, List.getElem_cons_succ, List.setIfInBounds_toArray, List.set_cons_zero, List.set_cons_succ]
      refine wpAnyL_ready (rs := [15]) (by kernel_rfl) (by simp) (AllReadyL.cons rfl (fun K hK => ?_) AllReadyL.nil)
      go_simp
      refine hK.out _ _ ?hkSn15 (fun hHeld => ?_)
      case hkSn15 => exact ⟨fun h => absurd h (by first | decide | kernel_rfl), fun h => absurd h (by first | decide | kernel_rfl), fun h => absurd h (by first | decide | kernel_rfl), fun h => absurd h (by first | decide | kernel_rfl)⟩
      clear hK K
      try simp only [Act.put, List.getElem_toArray, List.getElem_cons_zero, List.getElem_cons_succ, List.setIfInBounds_toArray, List.set_cons_zero, List.set_cons_succ]
      refine wpAnyL_done (by kernel_rfl) ?_ _
      go_wp2_with fail
      go_roundw
      case rel => exact ⟨s + 1, by go_num, by rw [HE.out], by omega, hide (own_drewN HO2.out 1), hide (HC2.out.drewN 1)⟩
      case measure => (simp [intOf]; omega)
    · have k2 : decide ((s : Int) < (n : Int) - 1 - (s : Int)) = false := decide_eq_false (by omega)
      have HO2 := hide (own_pts_congr HO.out (Q := fun i => P (n - 1 - i)) (fun i hi => by show P (rv n s i) = P (n - 1 - i); rw [rv_end (by omega) hi]))
      clear HO
      go_wp2_with fail
      refine bodyPost_end (results_none rfl _ _ _) rfl ?_
      exact ⟨rfl, HO2.out, HC.out⟩
end Go.Proofs.Ytegmokdhfmgdgaa.Rt
