/- Contracts of package shape: sine, round, turned. -/
import Derived.Test.YtnmikhmbnpiadaaDoorArgs
import Derived.Test.YtnmikhmbnpiadaaDoorProg
namespace Go.Proofs.YtnmikhmbnpiadaaDoor.Shp
open Go.RowKit Go.Frm

/-- the table of sines -/
def quarterL : List Int := [0, 1144, 2287, 3430, 4572, 5712, 6850, 7987, 9121, 10252, 11380, 12505, 13626, 14742, 15855, 16962, 18064, 19161, 20252, 21336, 22415, 23486, 24550, 25607, 26656, 27697, 28729, 29753, 30767, 31772,
  32768, 33754, 34729, 35693, 36647, 37590, 38521, 39441, 40348, 41243, 42126, 42995, 43852, 44695, 45525, 46341, 47143, 47930, 48703, 49461, 50203, 50931, 51643, 52339, 53020, 53684, 54332, 54963, 55578, 56175,
  56756, 57319, 57865, 58393, 58903, 59396, 59870, 60326, 60764, 61183, 61584, 61966, 62328, 62672, 62997, 63303, 63589, 63856, 64104, 64332, 64540, 64729, 64898, 65048, 65177, 65287, 65376, 65446, 65496, 65526, 65536]
def Qt (i : Nat) : Int := quarterL.getD i 0
theorem Qt_bd (i : Nat) : 0 ≤ Qt i ∧ Qt i ≤ 65536 := by
  have h : ∀ x ∈ quarterL, 0 ≤ x ∧ x ≤ 65536 := by decide
  unfold Qt
  rcases Nat.lt_or_ge i quarterL.length with hi | hi
  · have := h quarterL[i] (List.getElem_mem hi)
    simpa [List.getD_eq_getElem?_getD, hi] using this
  · simp [List.getD_eq_getElem?_getD, List.getElem?_eq_none hi]
/-- the sine in the first quarter -/
def snQ (t : Nat) : Int := if t % 10 = 0 then Qt (t / 10) else (Qt (t / 10) * (10 - (t % 10 : Nat)) + Qt (t / 10 + 1) * (t % 10 : Nat) + 5) / 10
theorem snQ_bd (t : Nat) : 0 ≤ snQ t ∧ snQ t ≤ 65537 := by
  have h1 := Qt_bd (t / 10)
  have h2 := Qt_bd (t / 10 + 1)
  unfold snQ
  split
  · omega
  · have hr : t % 10 < 10 := Nat.mod_lt _ (by omega)
    generalize t % 10 = r at *
    have p1 : 0 ≤ Qt (t / 10) * (10 - (r : Int)) := Int.mul_nonneg h1.1 (by omega)
    have p2 : Qt (t / 10) * (10 - (r : Int)) ≤ 65536 * (10 - (r : Int)) := Int.mul_le_mul_of_nonneg_right h1.2 (by omega)
    have p3 : 0 ≤ Qt (t / 10 + 1) * (r : Int) := Int.mul_nonneg h2.1 (by omega)
    have p4 : Qt (t / 10 + 1) * (r : Int) ≤ 65536 * (r : Int) := Int.mul_le_mul_of_nonneg_right h2.2 (by omega)
    omega
def sn (t : Int) : Int :=
  if 2700 < t % 3600 then -snQ (3600 - t % 3600).toNat else if 1800 < t % 3600 then -snQ (t % 3600 - 1800).toNat else if 900 < t % 3600 then snQ (1800 - t % 3600).toNat else snQ (t % 3600).toNat
theorem sn_bd (t : Int) : -65537 ≤ sn t ∧ sn t ≤ 65537 := by
  unfold sn
  have h1 := snQ_bd (3600 - t % 3600).toNat
  have h2 := snQ_bd (t % 3600 - 1800).toNat
  have h3 := snQ_bd (1800 - t % 3600).toNat
  have h4 := snQ_bd (t % 3600).toNat
  split
  · omega
  · split
    · omega
    · split <;> omega

/-- the table lies where the variable says -/
def TabQ (w : World) : Prop := ∀ i, i < 91 → w.cell? ⟨0, i, none⟩ = some (.int .i64 (Qt i))
theorem TabQ.below {w w' : World} (h : TabQ w) (hb : Below w.heap.size w w') : TabQ w' := fun i hi => by rw [hb.cell (World.block_lt_of_cell? w _ (h i hi))]; exact h i hi
theorem TabQ.drewN {w : World} (h : TabQ w) (n : Nat) : TabQ (w.drewN n) := h

set_option maxRecDepth 100000 in
set_option maxHeartbeats 1000000 in
theorem sineQ_ok (t : Nat) (w : World) (h : t ≤ 900) (hq : TabQ w) : Calls Tryd.prog 38 #[.int .i64 (t : Int)] w fun e w' => e = .returned (.int .i64 (snQ t)) ∧ ∃ d, w' = w.drewN d := by
  obtain ⟨d, hd⟩ : ∃ d, d = t / 10 := ⟨_, rfl⟩
  obtain ⟨r, hr⟩ : ∃ r, r = t % 10 := ⟨_, rfl⟩
  have hsn : snQ t = if r = 0 then Qt d else (Qt d * (10 - (r : Int)) + Qt (d + 1) * (r : Int) + 5) / 10 := by rw [hd, hr]; rfl
  have e1 : (t : Int) / 10 = (d : Int) := by omega
  have e2 : (t : Int) % 10 = (r : Int) := by omega
  have e4 : (t : Int) % 3600 = (t : Int) := Int.emod_eq_of_lt (by omega) (by omega)
  have e5 : ((t : Int) + 3600) % 3600 = (t : Int) := by omega
  have e6 : t % 3600 = t := by omega
  have e7 : t / 10 = d := hd.symm
  have e8 : t % 10 = r := hr.symm
  have hr9 : r ≤ 9 := by omega
  have hd90 : d ≤ 90 := by omega
  have hdr : r ≠ 0 → d ≤ 89 := by omega
  have b1 := Qt_bd d
  have b2 := Qt_bd (d + 1)
  have k0 := hq d (by omega)
  generalize snQ t = s at *
  by_cases h0 : r = 0
  · rw [if_pos h0] at hsn
    have Hsn := hide hsn
    subst h0
    clear hsn hdr hd hr b2
    go_enter Tryd.func38, Tryd.ntmps38
    go_wp2_with fail
    go_ret
    exact ⟨ret_int Hsn.out.symm, 0, rfl⟩
  · rw [if_neg h0] at hsn
    have Hsn := hide hsn
    have hd89 := hdr h0
    have k1 := hq (d + 1) (by omega)
    have g0 : ((r : Int) == 0) = false := by simp; omega
    have p1 : 0 ≤ Qt d * (10 - (r : Int)) := Int.mul_nonneg b1.1 (by omega)
    have p2 : Qt d * (10 - (r : Int)) ≤ 65536 * 10 := Int.mul_le_mul b1.2 (by omega) (by omega) (by omega)
    have p3 : 0 ≤ Qt (d + 1) * (r : Int) := Int.mul_nonneg b2.1 (by omega)
    have p4 : Qt (d + 1) * (r : Int) ≤ 65536 * 10 := Int.mul_le_mul b2.2 (by omega) (by omega) (by omega)
    have i0 : (0 : Int) ≤ (d : Int) := by omega
    have i1 : (d : Int) < 91 := by omega
    have i2 : (0 : Int) ≤ (d : Int) + 1 := by omega
    have i3 : (d : Int) + 1 < 91 := by omega
    have i4 : ((d : Int) + 1).toNat = d + 1 := by omega
    have i5 : IntKind.i64.wrap ((d : Int) + 1) = (d : Int) + 1 := IntWalk.i64_in _ (by omega)
    have i6 : IntKind.i64.wrap (10 - (r : Int)) = 10 - (r : Int) := IntWalk.i64_in _ (by omega)
    have i7 : IntKind.i64.wrap (Qt d * (10 - (r : Int))) = Qt d * (10 - (r : Int)) := IntWalk.i64_in _ (by omega)
    have i8 : IntKind.i64.wrap (Qt (d + 1) * (r : Int)) = Qt (d + 1) * (r : Int) := IntWalk.i64_in _ (by omega)
    have i9 : IntKind.i64.wrap (Qt d * (10 - (r : Int)) + Qt (d + 1) * (r : Int)) = Qt d * (10 - (r : Int)) + Qt (d + 1) * (r : Int) := IntWalk.i64_in _ (by omega)
    have j0 : IntKind.i64.wrap (Qt d * (10 - (r : Int)) + Qt (d + 1) * (r : Int) + 5) = Qt d * (10 - (r : Int)) + Qt (d + 1) * (r : Int) + 5 := IntWalk.i64_in _ (by omega)
    have j1 : IntKind.i64.wrap ((Qt d * (10 - (r : Int)) + Qt (d + 1) * (r : Int) + 5).tdiv 10) = (Qt d * (10 - (r : Int)) + Qt (d + 1) * (r : Int) + 5) / 10 := by rw [Int.tdiv_eq_ediv_of_nonneg (by omega)]; exact IntWalk.i64_in _ (by omega)
    clear hsn hdr hd hr
    go_enter Tryd.func38, Tryd.ntmps38
    go_wp2_with fail
    go_quiet (fail)
    go_wp2_with fail
    go_ret
    exact ⟨ret_int Hsn.out.symm, _, rfl⟩

theorem tmod_twice (t : Int) : (t.tmod 3600 + 3600) % 3600 = t % 3600 := by
  have h : t.tmod 3600 = t - 3600 * t.tdiv 3600 := by have := Int.mul_tdiv_add_tmod t 3600; omega
  rw [h]
  omega

set_option maxRecDepth 100000 in
set_option maxHeartbeats 1000000 in
theorem sine_ok (t : Int) (w : World) (hq : TabQ w) : Calls Tryd.prog 38 #[.int .i64 t] w fun e w' => e = .returned (.int .i64 (sn t)) ∧ ∃ d, w' = w.drewN d := by
  have he := tmod_twice t
  have t1 := Int.lt_tmod_of_pos t (show (0 : Int) < 3600 by omega)
  have t2 := Int.tmod_lt_of_pos t (show (0 : Int) < 3600 by omega)
  have u0 := Int.emod_nonneg t (show (3600 : Int) ≠ 0 by omega)
  have u1 := Int.emod_lt_of_pos t (show (0 : Int) < 3600 by omega)
  have hs : sn t = if 2700 < t % 3600 then -snQ (3600 - t % 3600).toNat else if 1800 < t % 3600 then -snQ (t % 3600 - 1800).toNat else if 900 < t % 3600 then snQ (1800 - t % 3600).toNat else snQ (t % 3600).toNat := rfl
  have hb := snQ_bd
  generalize sn t = s at *
  generalize t % 3600 = u at *
  have HB := hide hb
  have HQ := hide hq
  clear hb hq
  by_cases c1 : 2700 < u
  · rw [if_pos c1] at hs
    obtain ⟨k, hk⟩ : ∃ k : Nat, (k : Int) = 3600 - u := ⟨(3600 - u).toNat, by omega⟩
    have hk2 : (3600 - u).toNat = k := by omega
    rw [hk2] at hs
    have hsq := sineQ_ok k w (by omega) HQ.out
    rw [hk] at hsq
    have hb := HB.out k
    generalize snQ k = q at *
    have Hs := hide hs
    have Hsq := hide hsq
    clear hs hsq hk hk2
    go_enter Tryd.func38, Tryd.ntmps38
    go_wp2_with (go_at_call 38; refine Hsq.out.mono ?_; rintro e w1 ⟨rfl, d, rfl⟩)
    go_ret
    exact ⟨ret_int Hs.out.symm, d, rfl⟩
  · rw [if_neg c1] at hs
    by_cases c2 : 1800 < u
    · rw [if_pos c2] at hs
      obtain ⟨k, hk⟩ : ∃ k : Nat, (k : Int) = u - 1800 := ⟨(u - 1800).toNat, by omega⟩
      have hk2 : (u - 1800).toNat = k := by omega
      rw [hk2] at hs
      have hsq := sineQ_ok k w (by omega) HQ.out
      rw [hk] at hsq
      have hb := HB.out k
      generalize snQ k = q at *
      have Hs := hide hs
      have Hsq := hide hsq
      clear hs hsq hk hk2
      go_enter Tryd.func38, Tryd.ntmps38
      go_wp2_with (go_at_call 38; refine Hsq.out.mono ?_; rintro e w1 ⟨rfl, d, rfl⟩)
      go_ret
      exact ⟨ret_int Hs.out.symm, d, rfl⟩
    · rw [if_neg c2] at hs
      by_cases c3 : 900 < u
      · rw [if_pos c3] at hs
        obtain ⟨k, hk⟩ : ∃ k : Nat, (k : Int) = 1800 - u := ⟨(1800 - u).toNat, by omega⟩
        have hk2 : (1800 - u).toNat = k := by omega
        rw [hk2] at hs
        have hsq := sineQ_ok k w (by omega) HQ.out
        rw [hk] at hsq
        have hb := HB.out k
        generalize snQ k = q at *
        have Hs := hide hs
        have Hsq := hide hsq
        clear hs hsq hk hk2
        go_enter Tryd.func38, Tryd.ntmps38
        go_wp2_with (go_at_call 38; refine Hsq.out.mono ?_; rintro e w1 ⟨rfl, d, rfl⟩)
        go_ret
        exact ⟨ret_int Hs.out.symm, d, rfl⟩
      · rw [if_neg c3] at hs
        obtain ⟨k, hk⟩ : ∃ k : Nat, (k : Int) = u := ⟨u.toNat, by omega⟩
        have hk2 : u.toNat = k := by omega
        rw [hk2] at hs
        obtain ⟨d, hd⟩ : ∃ d, d = k / 10 := ⟨_, rfl⟩
        obtain ⟨r, hr⟩ : ∃ r, r = k % 10 := ⟨_, rfl⟩
        have hsn : s = if r = 0 then Qt d else (Qt d * (10 - (r : Int)) + Qt (d + 1) * (r : Int) + 5) / 10 := by rw [hs, hd, hr]; rfl
        have e1 : u / 10 = (d : Int) := by omega
        have e2 : u % 10 = (r : Int) := by omega
        have hr9 : r ≤ 9 := by omega
        have hd90 : d ≤ 90 := by omega
        have hdr : r ≠ 0 → d ≤ 89 := by omega
        have b1 := Qt_bd d
        have b2 := Qt_bd (d + 1)
        have k0 := HQ.out d (by omega)
        by_cases hr0 : r = 0
        · rw [if_pos hr0] at hsn
          have Hsn := hide hsn
          subst hr0
          clear hsn hdr hd hr b2 hk hk2 hs
          go_enter Tryd.func38, Tryd.ntmps38
          go_wp2_with fail
          go_ret
          exact ⟨ret_int Hsn.out.symm, 0, rfl⟩
        · rw [if_neg hr0] at hsn
          have Hsn := hide hsn
          have hd89 := hdr hr0
          have k1 := HQ.out (d + 1) (by omega)
          have g0 : ((r : Int) == 0) = false := by simp; omega
          have p1 : 0 ≤ Qt d * (10 - (r : Int)) := Int.mul_nonneg b1.1 (by omega)
          have p2 : Qt d * (10 - (r : Int)) ≤ 65536 * 10 := Int.mul_le_mul b1.2 (by omega) (by omega) (by omega)
          have p3 : 0 ≤ Qt (d + 1) * (r : Int) := Int.mul_nonneg b2.1 (by omega)
          have p4 : Qt (d + 1) * (r : Int) ≤ 65536 * 10 := Int.mul_le_mul b2.2 (by omega) (by omega) (by omega)
          have i0 : (0 : Int) ≤ (d : Int) := by omega
          have i1 : (d : Int) < 91 := by omega
          have i2 : (0 : Int) ≤ (d : Int) + 1 := by omega
          have i3 : (d : Int) + 1 < 91 := by omega
          have i4 : ((d : Int) + 1).toNat = d + 1 := by omega
          have i5 : IntKind.i64.wrap ((d : Int) + 1) = (d : Int) + 1 := IntWalk.i64_in _ (by omega)
          have i6 : IntKind.i64.wrap (10 - (r : Int)) = 10 - (r : Int) := IntWalk.i64_in _ (by omega)
          have i7 : IntKind.i64.wrap (Qt d * (10 - (r : Int))) = Qt d * (10 - (r : Int)) := IntWalk.i64_in _ (by omega)
          have i8 : IntKind.i64.wrap (Qt (d + 1) * (r : Int)) = Qt (d + 1) * (r : Int) := IntWalk.i64_in _ (by omega)
          have i9 : IntKind.i64.wrap (Qt d * (10 - (r : Int)) + Qt (d + 1) * (r : Int)) = Qt d * (10 - (r : Int)) + Qt (d + 1) * (r : Int) := IntWalk.i64_in _ (by omega)
          have j0 : IntKind.i64.wrap (Qt d * (10 - (r : Int)) + Qt (d + 1) * (r : Int) + 5) = Qt d * (10 - (r : Int)) + Qt (d + 1) * (r : Int) + 5 := IntWalk.i64_in _ (by omega)
          have j1 : IntKind.i64.wrap ((Qt d * (10 - (r : Int)) + Qt (d + 1) * (r : Int) + 5).tdiv 10) = (Qt d * (10 - (r : Int)) + Qt (d + 1) * (r : Int) + 5) / 10 := by rw [Int.tdiv_eq_ediv_of_nonneg (by omega)]; exact IntWalk.i64_in _ (by omega)
          clear hsn hdr hd hr hk hk2 hs
          go_enter Tryd.func38, Tryd.ntmps38
          go_wp2_with fail
          go_quiet (fail)
          go_wp2_with fail
          go_ret
          exact ⟨ret_int Hsn.out.symm, _, rfl⟩
end Go.Proofs.YtnmikhmbnpiadaaDoor.Shp
