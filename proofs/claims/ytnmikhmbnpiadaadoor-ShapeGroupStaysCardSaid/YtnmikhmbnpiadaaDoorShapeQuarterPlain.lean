/- Plain laws: drawings without turns; quarter turns. Nothing here speaks of a program. -/
import Derived.Test.YtnmikhmbnpiadaaDoorShapeSet
namespace Go.Proofs.YtnmikhmbnpiadaaDoor.Shp
open Go.RowKit Go.Frm

theorem tu_zero (x y cx cy : Int) : tuX x y cx cy 0 = x ∧ tuY x y cx cy 0 = y := by
  have e0 : sn 0 = 0 := by decide
  have e1 : sn (0 + 900) = 65536 := by decide
  unfold tuX tuY rdu
  rw [e0, e1]
  omega
theorem tu_half (x y cx cy : Int) : tuX x y cx cy 1800 = cx - x ∧ tuY x y cx cy 1800 = cy - y := by
  have e0 : sn 1800 = 0 := by decide
  have e1 : sn (1800 + 900) = -65536 := by decide
  unfold tuX tuY rdu
  rw [e0, e1]
  omega
theorem tu_quarter (x y cx cy : Int) : tuX x y cx cy 900 = (cx + cy - 2 * y + 1) / 2 ∧ tuY x y cx cy 900 = (cy - cx + 2 * x + 1) / 2 := by
  have e0 : sn 900 = 65536 := by decide
  have e1 : sn (900 + 900) = 0 := by decide
  unfold tuX tuY rdu
  rw [e0, e1]
  omega

/-- what the groups of a drawing without turns do to a point: they move it -/
theorem out_moves {G : Nat → Nat → Int} {n : Nat} (ho : ShOk G n) (hz : ∀ i, i < n → G i 7 = 0) : ∀ (q : Nat) (pa : Int), q ≤ n → (pa = 0 ∨ ∃ p, p < q ∧ G p 0 = pa) →
    ∃ dx dy : Int, dx.natAbs ≤ 1048576 * q ∧ dy.natAbs ≤ 1048576 * q ∧ ∀ x y : Int, x.natAbs + 1100000 * q ≤ 900000000 → y.natAbs + 1100000 * q ≤ 900000000 → Out G n q pa x y (x + dx) (y + dy) := by
  intro q
  induction q using Nat.strongRecOn with
  | _ q ih =>
    intro pa hq hpa
    rcases hpa with rfl | ⟨p, hp, rfl⟩
    · refine ⟨0, 0, by simp, by simp, fun x y _ _ => ?_⟩
      rw [Int.add_zero, Int.add_zero]
      exact OutTo.done q x y
    · have hpn : p < n := by omega
      have hgr : G p 1 = 0 ∨ ∃ p', p' < p ∧ G p' 0 = G p 1 := by
        rcases ho.grp p hpn with h | ⟨p', h1, h2, _⟩
        · exact .inl h
        · exact .inr ⟨p', h1, h2⟩
      obtain ⟨dx, dy, h1, h2, h3⟩ := ih p hp (G p 1) (by omega) hgr
      obtain ⟨⟨x1, x2⟩, ⟨y1, y2⟩⟩ := ho.xy p hpn
      have hi := ho.item p hpn
      have hf := ho.few
      refine ⟨G p 3 + dx, G p 4 + dy, by omega, by omega, fun x y hx hy => ?_⟩
      have hs := h3 (x + G p 3) (y + G p 4) (by omega) (by omega)
      rw [Int.add_assoc, Int.add_assoc] at hs
      refine OutTo.step q p x y _ _ hp hq (by omega) (by omega) (by omega) ?_
      rw [hz p hpn, (tu_zero _ _ _ _).1, (tu_zero _ _ _ _).2]
      exact hs

/-- a turn of a shape does not touch the way out of the groups before it -/
theorem out_upd {G : Nat → Nat → Int} {n k : Nat} {t : Int} {q : Nat} {pa x y x' y' : Int} (h : OutTo G n q pa x y x' y') (hq : q ≤ k) : OutTo (updT G k t) n q pa x y x' y' := by
  induction h with
  | done q x y => exact OutTo.done q x y
  | step q p x y x' y' hp hqn hne hx hy _ ih =>
    have e : ∀ j, updT G k t p j = G p j := fun j => by simp [updT, show p ≠ k by omega]
    have := OutTo.step (G := updT G k t) (n := n) q p x y x' y' hp hqn (by rw [e]; exact hne) (by rw [e]; exact hx) (by rw [e]; exact hy) (by simp only [e]; exact ih (by omega))
    rw [e] at this
    exact this
theorem i_mod (i : Nat) (h : i < 4) : i = 0 ∨ i = 1 ∨ i = 2 ∨ i = 3 := by omega
/-- the corners of a drawing without turns, as it stands, with a half turn and with a quarter turn -/
theorem three_corners {G : Nat → Nat → Int} {n k : Nat} (ho : ShOk G n) (hz : ∀ i, i < n → G i 7 = 0) (hk : k < n) : ∃ dx dy : Int, dx.natAbs ≤ 20000000 ∧ dy.natAbs ≤ 20000000 ∧
    CornersAt G n k (fun i => crX G k i + dx) (fun i => crY G k i + dy) ∧ CornersAt (updT G k 1800) n k (fun i => crX G k ((i + 2) % 4) + dx) (fun i => crY G k ((i + 2) % 4) + dy) ∧
    CornersAt (updT G k 900) n k (fun i => (2 * G k 3 + G k 5 + (2 * G k 4 + G k 6) - 2 * crY G k i + 1) / 2 + dx) (fun i => (2 * G k 4 + G k 6 - (2 * G k 3 + G k 5) + 2 * crX G k i + 1) / 2 + dy) := by
  obtain ⟨dx, dy, h1, h2, h3⟩ := out_moves ho hz k (G k 1) (by omega) (by
    rcases ho.grp k hk with h | ⟨p, a, b, _⟩
    · exact .inl h
    · exact .inr ⟨p, a, b⟩)
  obtain ⟨⟨x1, x2⟩, ⟨y1, y2⟩⟩ := ho.xy k hk
  obtain ⟨⟨v1, v2⟩, ⟨w1, w2⟩⟩ := ho.wh k hk
  have hf := ho.few
  have bx : ∀ i, (crX G k i).natAbs ≤ 3000000 := fun i => by unfold crX; split <;> omega
  have bY : ∀ i, (crY G k i).natAbs ≤ 3000000 := fun i => by unfold crY; split <;> omega
  refine ⟨dx, dy, by omega, by omega, fun i hi => ⟨k, ?_⟩, fun i hi => ⟨k, ?_⟩, fun i hi => ⟨k, ?_⟩⟩
  · have := bx i
    have := bY i
    have h := h3 (crX G k i) (crY G k i) (by omega) (by omega)
    unfold ctX ctY
    rw [hz k hk, (tu_zero _ _ _ _).1, (tu_zero _ _ _ _).2]
    exact h
  · have := bx ((i + 2) % 4)
    have := bY ((i + 2) % 4)
    have h := out_upd (k := k) (t := 1800) (h3 (crX G k ((i + 2) % 4)) (crY G k ((i + 2) % 4)) (by omega) (by omega)) (Nat.le_refl _)
    have e1 : ctX (updT G k 1800) k i = crX G k ((i + 2) % 4) := by
      unfold ctX
      rw [show updT G k 1800 k 7 = 1800 by simp [updT], (tu_half _ _ _ _).1]
      simp only [crX, updT_of (show (3 : Nat) ≠ 7 by omega), updT_of (show (5 : Nat) ≠ 7 by omega)]
      rcases i_mod i hi with rfl | rfl | rfl | rfl <;> simp <;> omega
    have e2 : ctY (updT G k 1800) k i = crY G k ((i + 2) % 4) := by
      unfold ctY
      rw [show updT G k 1800 k 7 = 1800 by simp [updT], (tu_half _ _ _ _).2]
      simp only [crY, updT_of (show (4 : Nat) ≠ 7 by omega), updT_of (show (6 : Nat) ≠ 7 by omega)]
      rcases i_mod i hi with rfl | rfl | rfl | rfl <;> simp <;> omega
    rw [e1, e2, updT_of (by omega)]
    exact h
  · have := bx i
    have := bY i
    have h := out_upd (k := k) (t := 900) (h3 ((2 * G k 3 + G k 5 + (2 * G k 4 + G k 6) - 2 * crY G k i + 1) / 2) ((2 * G k 4 + G k 6 - (2 * G k 3 + G k 5) + 2 * crX G k i + 1) / 2) (by omega) (by omega)) (Nat.le_refl _)
    have c1 : crX (updT G k 900) k i = crX G k i := by simp only [crX, updT_of (show (3 : Nat) ≠ 7 by omega), updT_of (show (5 : Nat) ≠ 7 by omega)]
    have c2 : crY (updT G k 900) k i = crY G k i := by simp only [crY, updT_of (show (4 : Nat) ≠ 7 by omega), updT_of (show (6 : Nat) ≠ 7 by omega)]
    have e1 : ctX (updT G k 900) k i = (2 * G k 3 + G k 5 + (2 * G k 4 + G k 6) - 2 * crY G k i + 1) / 2 := by
      unfold ctX
      rw [show updT G k 900 k 7 = 900 by simp [updT], (tu_quarter _ _ _ _).1, c2]
      simp only [updT_of (show (3 : Nat) ≠ 7 by omega), updT_of (show (4 : Nat) ≠ 7 by omega), updT_of (show (5 : Nat) ≠ 7 by omega), updT_of (show (6 : Nat) ≠ 7 by omega)]
    have e2 : ctY (updT G k 900) k i = (2 * G k 4 + G k 6 - (2 * G k 3 + G k 5) + 2 * crX G k i + 1) / 2 := by
      unfold ctY
      rw [show updT G k 900 k 7 = 900 by simp [updT], (tu_quarter _ _ _ _).2, c1]
      simp only [updT_of (show (3 : Nat) ≠ 7 by omega), updT_of (show (4 : Nat) ≠ 7 by omega), updT_of (show (5 : Nat) ≠ 7 by omega), updT_of (show (6 : Nat) ≠ 7 by omega)]
    rw [e1, e2, updT_of (by omega)]
    exact h
end Go.Proofs.YtnmikhmbnpiadaaDoor.Shp
