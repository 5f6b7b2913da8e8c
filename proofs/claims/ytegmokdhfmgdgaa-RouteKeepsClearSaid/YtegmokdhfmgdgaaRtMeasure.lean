/- The contract of chancerykeep3.measure. -/
import Derived.Test.YtegmokdhfmgdgaaRtReverse
namespace Go.Proofs.Ytegmokdhfmgdgaa.Rt
open Go.RowKit Go.Frm Go.Frm.Rt

/-- the length of the first n points -/
def lenF (P : Nat → Pt) : Nat → Int
  | 0 => 0
  | 1 => 0
  | k + 2 => lenF P (k + 1) + dist (P k) (P (k + 1))
def smallP (p : Pt) : Prop := -1000000 ≤ p.1 ∧ p.1 ≤ 1000000 ∧ -1000000 ≤ p.2 ∧ p.2 ≤ 1000000
theorem dist_le {a b : Pt} (ha : smallP a) (hb : smallP b) : 0 ≤ dist a b ∧ dist a b ≤ 4000000 := by
  unfold smallP at ha hb
  unfold dist mxI
  split <;> split <;> omega
theorem lenF_bd {P : Nat → Pt} {n : Nat} (h : ∀ i, i < n → smallP (P i)) : ∀ k, k ≤ n → 0 ≤ lenF P k ∧ lenF P k ≤ 4000000 * (k : Int)
  | 0, _ => ⟨Int.le_refl _, by show (0 : Int) ≤ 4000000 * 0; decide⟩
  | 1, _ => ⟨Int.le_refl _, by show (0 : Int) ≤ 4000000 * 1; decide⟩
  | k + 2, hk => by
    have h1 := lenF_bd h (k + 1) (by omega)
    have h2 := dist_le (h k (by omega)) (h (k + 1) (by omega))
    show 0 ≤ lenF P (k + 1) + dist (P k) (P (k + 1)) ∧ lenF P (k + 1) + dist (P k) (P (k + 1)) ≤ 4000000 * ((k + 2 : Nat) : Int)
    omega
set_option maxRecDepth 100000 in
set_option maxHeartbeats 40000000 in
theorem measure_ok {w : World} {A : Option Addr} {n c : Nat} {P : Nat → Pt} (hr : RdF w A n 2 (ptF P)) (hn : n ≤ 1000000) (hp : ∀ i, i < n → smallP (P i)) :
    Calls Try.prog 13 #[.slice A n c] w fun e w' => e = .returned (.tuple #[.int .i64 (mxI ((n : Int) - 2) 0), .int .i64 (lenF P n)]) ∧ ∃ m, w' = w.drewN m := by
  have HR := hide hr
  have HP := hide hp
  have HLB := hide (lenF_bd hp)
  have hmx := max2 ((n : Int) - 2) 0
  have HMX : Hid (mxI ((n : Int) - 2) 0 = mxI ((n : Int) - 2) 0) := hide rfl
  generalize mxI ((n : Int) - 2) 0 = turnsN at *
  clear hr hp
  go_enter Try.func13, Try.ntmps13
  go_wp2_with fail
  go_loopw [4, 5] (fun a v wr => ∃ (k q : Nat), v = .int .i64 ((k + 1 : Nat) : Int) ∧ a = .int .i64 (lenF P (k + 1)) ∧ (k + 1 ≤ n ∨ k = 0) ∧ wr = w.drewN q) (fun _ v _ => n + 1 - (intOf v).toNat)
  case atStart => exact ⟨0, 0, rfl, rfl, .inr rfl, rfl⟩
  case round =>
    obtain ⟨k, q, rfl, rfl, hk, rfl⟩ := hrel
    by_cases hlt : k + 1 < n
    · have HC : Hid (∀ j, j < n → (w.drewN q).cell? ⟨0, 0, none⟩ = (w.drewN q).cell? ⟨0, 0, none⟩) := hide (fun _ _ => rfl)
      obtain ⟨b, off, rfl, ca⟩ := (HR.out.drewN q).at_ (k := k) (by omega)
      obtain ⟨b2, off2, hbe, cb⟩ := (HR.out.drewN q).at_ (k := k + 1) (by omega)
      injection hbe with hbe
      injection hbe with hbe1 hbe2
      subst hbe1 hbe2
      have a0 := ca 0 (by omega)
      have a1 := ca 1 (by omega)
      have b0 := cb 0 (by omega)
      have b1 := cb 1 (by omega)
      obtain ⟨i, Hi⟩ : ∃ i, Hid (i = k + 1) := ⟨_, rfl⟩
      have hpa := HP.out k (by omega)
      have hpb := HP.out (k + 1) (by omega)
      have hlb := HLB.out (k + 1) (by omega)
      have hdb := dist_le hpa hpb
      have HL2 : Hid (lenF P (k + 1 + 1) = lenF P (k + 1) + dist (P k) (P (k + 1))) := hide rfl
      have HD : Hid (dist (P k) (P (k + 1)) = mxI ((P (k + 1)).1 - (P k).1) ((P k).1 - (P (k + 1)).1) + mxI ((P (k + 1)).2 - (P k).2) ((P k).2 - (P (k + 1)).2)) := hide rfl
      change (w.drewN q).cell? ⟨b, off + k * 2 + 0, none⟩ = some (.int .i64 (P k).1) at a0
      change (w.drewN q).cell? ⟨b, off + k * 2 + 1, none⟩ = some (.int .i64 (P k).2) at a1
      change (w.drewN q).cell? ⟨b, off + (k + 1) * 2 + 0, none⟩ = some (.int .i64 (P (k + 1)).1) at b0
      change (w.drewN q).cell? ⟨b, off + (k + 1) * 2 + 1, none⟩ = some (.int .i64 (P (k + 1)).2) at b1
      rw [Nat.add_zero] at a0 b0
      unfold smallP at hpa hpb
      rw [← Hi.out] at b0 b1 hpb HL2 HD hlb hdb ⊢
      obtain ⟨pa1, pa2, pa3, pa4⟩ := hpa
      obtain ⟨pb1, pb2, pb3, pb4⟩ := hpb
      obtain ⟨lb1, lb2⟩ := hlb
      generalize lenF P i = ln at *
      generalize dist (P k) (P i) = dd at *
      generalize (P k).1 = xa at *
      generalize (P k).2 = ya at *
      generalize (P i).1 = xb at *
      generalize (P i).2 = yb at *
      have hm1 := max2 (xb - xa) (xa - xb)
      have hm2 := max2 (yb - ya) (ya - yb)
      have u1 : 0 ≤ mxI (xb - xa) (xa - xb) ∧ mxI (xb - xa) (xa - xb) ≤ 2000000 := by unfold mxI; split <;> omega
      have u2 : 0 ≤ mxI (yb - ya) (ya - yb) ∧ mxI (yb - ya) (ya - yb) ≤ 2000000 := by unfold mxI; split <;> omega
      generalize mxI (xb - xa) (xa - xb) = m1 at *
      generalize mxI (yb - ya) (ya - yb) = m2 at *
      have hin : i < n := by have := Hi.out; omega
      have v1 : IntKind.i64.wrap (xb - xa) = xb - xa := IntWalk.i64_in _ (by omega)
      have v2 : IntKind.i64.wrap (xa - xb) = xa - xb := IntWalk.i64_in _ (by omega)
      have v3 : IntKind.i64.wrap (yb - ya) = yb - ya := IntWalk.i64_in _ (by omega)
      have v4 : IntKind.i64.wrap (ya - yb) = ya - yb := IntWalk.i64_in _ (by omega)
      have v5 : IntKind.i64.wrap (m1 + m2) = m1 + m2 := IntWalk.i64_in _ (by omega)
      have v6 : IntKind.i64.wrap (ln + (m1 + m2)) = ln + (m1 + m2) := IntWalk.i64_in _ (by omega)
      have k1 : decide ((i : Int) < (n : Int)) = true := decide_eq_true (by omega)
      have k2 : (i : Int) < (n : Int) := by omega
      have k3 : (i : Int) - 1 = (k : Int) := by have := Hi.out; omega
      have k4 : IntKind.i64.wrap ((i : Int) - 1) = (k : Int) := by rw [k3]; exact IntWalk.i64_in _ (by omega)
      have k10 : IntKind.i64.wrap (k : Int) = (k : Int) := IntWalk.i64_in _ (by omega)
      have k5 : (0 : Int) ≤ (k : Int) := by omega
      have k6 : (k : Int) < (n : Int) := by omega
      have k7 : (0 : Int) ≤ (i : Int) := by omega
      have k8 : (i : Int) ≤ 1000000 := by omega
      have Hk := hide hk
      clear hk hlt ca cb HC
      go_upto_region 5 with fail
      obtain ⟨w5, He⟩ : ∃ wx : World, Hid (wx = w.drewN q) := ⟨_, rfl⟩
      rw [← He.out] at a0 a1 b0 b1
      rw [← He.out]
      go_region_held3 (fun w' => w'.cell? ⟨b, off + k * 2, none⟩ = some (.int .i64 xa) ∧ w'.cell? ⟨b, off + k * 2 + 1, none⟩ = some (.int .i64 ya) ∧ w'.cell? ⟨b, off + i * 2, none⟩ = some (.int .i64 xb) ∧ w'.cell? ⟨b, off + i * 2 + 1, none⟩ = some (.int .i64 yb))
        (first | go_keep)
        (fail)
      all_goals (
        have hi2 : (i : Int) + 1 = ((k + 1 + 1 : Nat) : Int) := by have := Hi.out; omega
        have hi3 : IntKind.i64.wrap ((i : Int) + 1) = ((k + 1 + 1 : Nat) : Int) := by rw [hi2]; exact IntWalk.i64_in _ (by have := Hi.out; omega)
        have HL3 : Hid (ln + (m1 + m2) = lenF P (k + 1 + 1)) := hide (by rw [← HD.out, ← Hi.out]; exact HL2.out.symm)
        clear a0 a1 b0 b1 hm1 hm2
        go_wp2_with fail
        go_roundw
        case rel => exact ⟨k + 1, q + 1, by go_num, by rw [HL3.out], .inl (by have := Hi.out; omega), by rw [He.out]; exact World.drewN_drewN w q 1⟩
        case measure => (simp [intOf]; have := Hi.out; omega))
    · have HE : Hid (lenF P (k + 1) = lenF P n) := hide (by
        rcases hk with h | h
        · rw [show k + 1 = n by omega]
        · subst h
          rcases (show n = 0 ∨ n = 1 by omega) with rfl | rfl <;> rfl)
      have k1 : decide (((k + 1 : Nat) : Int) < (n : Int)) = false := decide_eq_false (by omega)
      have k9 : IntKind.i64.wrap ((n : Int) - 2) = (n : Int) - 2 := IntWalk.i64_in _ (by omega)
      rw [HE.out]
      have H5 := hide (World.drewN_drewN w q 1)
      go_wp2_with fail
      go_ret2
      exact ⟨rfl, _, rfl⟩
end Go.Proofs.Ytegmokdhfmgdgaa.Rt
