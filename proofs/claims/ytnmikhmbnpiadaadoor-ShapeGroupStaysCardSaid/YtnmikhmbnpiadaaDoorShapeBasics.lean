/- What the drawings of chancerykeep3.shapes are, and the contract of chancerykeep3.turned. -/
import Derived.Test.YtnmikhmbnpiadaaDoorShapeMake
import Derived.Test.YtnmikhmbnpiadaaDoorShapeCornersAll
namespace Go.Proofs.YtnmikhmbnpiadaaDoor.Shp
open Go.RowKit Go.Frm Wi

theorem spk_bd (G : Nat → Nat → Int) {i : Nat} (h : 0 < i) : 0 ≤ spk G i ∧ spk G i ≤ (i : Int) - 1 := wi_bd _ (by omega)
theorem spar_cases (G : Nat → Nat → Int) (i : Nat) : spar G i = 0 ∨ ∃ p : Nat, p < i ∧ spar G i = (p : Int) + 1 ∧ skind G p = 5 := by
  unfold spar
  split
  · rename_i h
    have hb := spk_bd G h.1
    exact .inr ⟨(spk G i).toNat, by omega, by omega, h.2.2⟩
  · exact .inl rfl
theorem skind_bd (G : Nat → Nat → Int) (i : Nat) : 0 ≤ skind G i ∧ skind G i ≤ 7 := wi_bd _ (by omega)
theorem send_bd (G : Nat → Nat → Int) (i j : Nat) : 0 ≤ send G i j ∧ send G i j ≤ 11 := by
  unfold send
  split
  · exact wi_bd _ (by omega)
  · omega
theorem sturn_bd (G : Nat → Nat → Int) (t : Bool) (i : Nat) : 0 ≤ sturn G t i ∧ sturn G t i ≤ 3599 := by
  unfold sturn
  split
  · exact wi_bd _ (by omega)
  · omega
theorem made_ok (G : Nat → Nat → Int) (t : Bool) {m : Nat} (hm : m ≤ 10) : ShOk (shG G t) m where
  few := by omega
  item i hi := by show 1 ≤ (i : Int) + 1 ∧ (i : Int) + 1 ≤ 1073741824; omega
  one j i hj hi := by show (j : Int) + 1 ≠ (i : Int) + 1; omega
  par i hi := by
    show 0 ≤ spar G i ∧ spar G i ≤ 1073741824
    rcases spar_cases G i with h | ⟨p, hp, h, _⟩ <;> omega
  kind i hi := skind_bd G i
  xy i hi := by
    have h1 := wi_bd (G i 3) (show (-2000 : Int) ≤ 2000 by omega)
    have h2 := wi_bd (G i 4) (show (-2000 : Int) ≤ 2000 by omega)
    show (-1048576 ≤ wi (G i 3) (-2000) 2000 ∧ wi (G i 3) (-2000) 2000 ≤ 1048576) ∧ (-1048576 ≤ wi (G i 4) (-2000) 2000 ∧ wi (G i 4) (-2000) 2000 ≤ 1048576)
    omega
  wh i hi := by
    have h1 := wi_bd (G i 5) (show (0 : Int) ≤ 1500 by omega)
    have h2 := wi_bd (G i 6) (show (0 : Int) ≤ 1500 by omega)
    show (0 ≤ wi (G i 5) 0 1500 ∧ wi (G i 5) 0 1500 ≤ 1048576) ∧ (0 ≤ wi (G i 6) 0 1500 ∧ wi (G i 6) 0 1500 ≤ 1048576)
    omega
  turn i hi := by
    have h1 := sturn_bd G t i
    show 0 ≤ sturn G t i ∧ sturn G t i < 3600
    omega
  ft i hi := by
    have h1 := send_bd G i 8
    have h2 := send_bd G i 9
    show (0 ≤ send G i 8 ∧ send G i 8 ≤ 1073741824) ∧ (0 ≤ send G i 9 ∧ send G i 9 ≤ 1073741824)
    omega
  link i hi h := by
    have h6 : skind G i ≠ 6 := h
    show send G i 8 = 0 ∧ send G i 9 = 0
    simp [send, h6]
  grp i hi := by
    rcases spar_cases G i with h | ⟨p, hp, h, hk⟩
    · exact .inl h
    · exact .inr ⟨p, hp, h.symm, hk⟩

/-- one shape in a block -/
theorem rdF_one {w : World} {g : Nat} {t : TypeId} {G : Nat → Nat → Int} {T : Nat → Nat → ByteArray} (h : Blk w g t (shC G T 0)) : RdF w (some ⟨g, 0, none⟩) 1 12 (shV G T) := by
  refine .inr ⟨g, 0, rfl, fun i j hi hj => ?_⟩
  obtain rfl : i = 0 := by omega
  rw [h.cell]
  match j with
  | 0 => rfl
  | 1 => rfl
  | 2 => rfl
  | 3 => rfl
  | 4 => rfl
  | 5 => rfl
  | 6 => rfl
  | 7 => rfl
  | 8 => rfl
  | 9 => rfl
  | 10 => rfl
  | 11 => rfl
  | j + 12 => omega

def G0 (_ j : Nat) : Int := [1, 0, 0, 0, 0, 10, 20, 900, 0, 0].getD j 0
def T0 (_ _ : Nat) : ByteArray := ⟨#[]⟩
theorem g0_ok : ShOk G0 1 where
  few := by omega
  item i hi := by decide +revert
  one j i hj hi := by omega
  par i hi := by decide +revert
  kind i hi := by decide +revert
  xy i hi := by decide +revert
  wh i hi := by decide +revert
  turn i hi := by decide +revert
  ft i hi := by decide +revert
  link i hi _ := ⟨rfl, rfl⟩
  grp i hi := .inl rfl
theorem g0_corners : CornersAt G0 1 0 (ctX G0 0) (ctY G0 0) := fun _ _ => ⟨0, OutTo.done _ _ _⟩
theorem g0_bounds : mnU (ctX G0 0) 4 = -5 ∧ mnU (ctY G0 0) 4 = 5 ∧ mxU (ctX G0 0) 4 = 15 ∧ mxU (ctY G0 0) 4 = 15 := by decide +kernel

set_option maxRecDepth 100000 in
set_option maxHeartbeats 1000000 in
theorem keptTurned_ok (w : World) (hq : TabQ w) : Calls Tryd.prog 9 #[] w fun e w' => e = .returned (.bool true) ∧ Below w.heap.size w w' := by
  have hb0 : Below w.heap.size w (w.alloc (.cells (shC G0 T0 0) 23)) := (Below.refl _ _).alloc (Nat.le_refl _) _
  have hB := Bounds_ok (some ⟨w.heap.size, 0, none⟩) 1 1 0 G0 T0 _ _ 1 _ (hq.below hb0) g0_ok (rdF_one (Blk.new w _ _)) (by omega) (by omega) rfl g0_corners
  rw [g0_bounds.1, g0_bounds.2.1, g0_bounds.2.2.1, g0_bounds.2.2.2] at hB
  have HB := hide hB
  have Hb0 := hide hb0
  clear hB hb0 hq
  go_enter Tryd.func9, Tryd.ntmps9
  go_wp2_with fail
  refine HB.out.mono ?_
  rintro e w1 ⟨rfl, hb1⟩
  go_wp2_with fail
  go_ret
  exact ⟨rfl, (Hb0.out.trans (hb1.mono Hb0.out.size)).alloc (by have := Hb0.out.size; have := hb1.size; omega) _⟩
end Go.Proofs.YtnmikhmbnpiadaaDoor.Shp
