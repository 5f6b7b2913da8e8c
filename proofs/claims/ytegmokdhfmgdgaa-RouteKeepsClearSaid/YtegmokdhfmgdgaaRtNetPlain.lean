/- The net of a search: its steps are straight and clear, and lead back. Nothing here speaks of a program. -/
import Derived.Test.YtegmokdhfmgdgaaRtSearch
namespace Go.Proofs.Ytegmokdhfmgdgaa.Rt
open Go.RowKit Go.Frm Go.Frm.Rt

section
variable {X Y : Nat → Int} {nx ny nl : Nat} {fs : Nat → Fr}
theorem mnI_comm (a b : Int) : mnI a b = mnI b a := by unfold mnI; split <;> split <;> omega
theorem mxI_comm (a b : Int) : mxI a b = mxI b a := by unfold mxI; split <;> split <;> omega
theorem hitB_comm (f : Fr) (a b : Pt) : hitB f a b = hitB f b a := by unfold hitB; rw [mnI_comm a.1, mxI_comm a.1, mnI_comm a.2, mxI_comm a.2]
theorem hitsB_comm (n : Nat) (a b : Pt) : hitsB fs n a b = hitsB fs n b a := by unfold hitsB; congr 1; funext i; exact hitB_comm _ _ _
theorem dist_comm (a b : Pt) : dist a b = dist b a := by unfold dist; rw [mxI_comm (b.1 - a.1), mxI_comm (b.2 - a.2)]
/-- the net leads back -/
theorem gE_sym (x y d x' y' : Nat) (w : Int) (hx : x < nx) (hy : y < ny) (hd : d < 4) (h : gE X Y nx ny nl fs x y d = some (x', y', w)) : gE X Y nx ny nl fs x' y' (opp d) = some (x, y, w) := by
  obtain ⟨h1, h2, h3, h4, h5, h6, h7⟩ := gE_some h
  have e1 : mvX (opp d) (x' : Nat) = (x : Nat) := by
    rw [← h2]
    unfold mvX opp
    rcases (show d = 0 ∨ d = 1 ∨ d = 2 ∨ d = 3 by omega) with rfl | rfl | rfl | rfl <;> simp
  have e2 : mvY (opp d) (y' : Nat) = (y : Nat) := by
    rw [← h3]
    unfold mvY opp
    rcases (show d = 0 ∨ d = 1 ∨ d = 2 ∨ d = 3 by omega) with rfl | rfl | rfl | rfl <;> simp
  unfold gE
  rw [e1, e2, Int.toNat_natCast, Int.toNat_natCast]
  have h8 : inB nx ny (x : Nat) (y : Nat) = true := by unfold inB; simp; omega
  rw [if_pos h8, hitsB_comm, h6, if_neg (by decide), h7, dist_comm]
/-- its steps are straight -/
theorem gE_str (hX : ∀ i j, i < j → j < nx → X i < X j) (hY : ∀ i j, i < j → j < ny → Y i < Y j) {x y d x' y' : Nat} {w : Int} (hx : x < nx) (hy : y < ny) (hd : d < 4) (h : gE X Y nx ny nl fs x y d = some (x', y', w)) : Str d (X x, Y y) (X x', Y y') w := by
  obtain ⟨h1, h2, h3, h4, h5, h6, h7⟩ := gE_some h
  rw [h7]
  have hs : ∀ u, Str d (X x, Y y) (X x', Y y') u → Str d (X x, Y y) (X x', Y y') (dist (X x, Y y) (X x', Y y')) := fun u hu => by rw [hu.dist]; exact hu
  unfold mvX at h2
  unfold mvY at h3
  rcases (show d = 0 ∨ d = 1 ∨ d = 2 ∨ d = 3 by omega) with rfl | rfl | rfl | rfl
  · have e1 : x' = x + 1 := by simp at h2; omega
    have e2 : y' = y := by simp at h3; omega
    subst e1 e2
    exact hs _ (.inl ⟨rfl, rfl, hX x (x + 1) (by omega) h4, rfl⟩)
  · have e1 : x' = x := by simp at h2; omega
    have e2 : y' = y + 1 := by simp at h3; omega
    subst e1 e2
    exact hs _ (.inr (.inl ⟨rfl, rfl, hY y (y + 1) (by omega) h5, rfl⟩))
  · have e1 : x = x' + 1 := by simp at h2; omega
    have e2 : y' = y := by simp at h3; omega
    subst e1 e2
    exact hs _ (.inr (.inr (.inl ⟨rfl, rfl, hX x' (x' + 1) (by omega) hx, rfl⟩)))
  · have e1 : x' = x := by simp at h2; omega
    have e2 : y = y' + 1 := by simp at h3; omega
    subst e1 e2
    exact hs _ (.inr (.inr (.inr ⟨rfl, rfl, hY y' (y' + 1) (by omega) hy, rfl⟩)))
/-- they enter no rectangle -/
theorem gE_clear {x y d x' y' : Nat} {w : Int} (h : gE X Y nx ny nl fs x y d = some (x', y', w)) : Clear ((List.range nl).map fs) (X x, Y y) (X x', Y y') := by
  obtain ⟨h1, h2, h3, h4, h5, h6, h7⟩ := gE_some h
  intro f hf _ _ hh
  obtain ⟨i, hi, rfl⟩ := List.mem_map.1 hf
  have := hitsB_true (List.mem_range.1 hi) ((hitB_iff _ _ _).2 hh)
  rw [h6] at this
  cases this
/-- the net, from places on it alone -/
def gR (X Y : Nat → Int) (nx ny nl : Nat) (fs : Nat → Fr) : Net := fun x y d => if x < nx ∧ y < ny then gE X Y nx ny nl fs x y d else none
theorem gR_some {x y d x' y' : Nat} {w : Int} (h : gR X Y nx ny nl fs x y d = some (x', y', w)) : x < nx ∧ y < ny ∧ gE X Y nx ny nl fs x y d = some (x', y', w) := by
  unfold gR at h
  split at h
  · rename_i h1
    exact ⟨h1.1, h1.2, h⟩
  · cases h
theorem gR_of {x y d x' y' : Nat} {w : Int} (hx : x < nx) (hy : y < ny) (h : gE X Y nx ny nl fs x y d = some (x', y', w)) : gR X Y nx ny nl fs x y d = some (x', y', w) := by
  unfold gR
  rw [if_pos ⟨hx, hy⟩]
  exact h
theorem pth_gR {first : Int} {sx sy : Nat} {ds : List Nat} {ps : List (Nat × Nat)} {x y d : Nat} {c : Co} (hx : sx < nx) (hy : sy < ny) (h : Pth (gE X Y nx ny nl fs) first sx sy ds ps x y d c) : Pth (gR X Y nx ny nl fs) first sx sy ds ps x y d c ∧ x < nx ∧ y < ny := by
  induction h with
  | one hd hf hE =>
    have := gE_some hE
    exact ⟨Pth.one hd hf (gR_of hx hy hE), this.2.2.2.1, this.2.2.2.2.1⟩
  | next h hd hr hE ih =>
    have := gE_some hE
    exact ⟨Pth.next ih.1 hd hr (gR_of ih.2.1 ih.2.2 hE), this.2.2.2.1, this.2.2.2.2.1⟩
theorem pth_gE {first : Int} {sx sy : Nat} {ds : List Nat} {ps : List (Nat × Nat)} {x y d : Nat} {c : Co} (h : Pth (gR X Y nx ny nl fs) first sx sy ds ps x y d c) : Pth (gE X Y nx ny nl fs) first sx sy ds ps x y d c := by
  induction h with
  | one hd hf hE => exact Pth.one hd hf (gR_some hE).2.2
  | next h hd hr hE ih => exact Pth.next ih hd hr (gR_some hE).2.2
theorem gR_sym (x y d x' y' : Nat) (w : Int) (hd : d < 4) (h : gR X Y nx ny nl fs x y d = some (x', y', w)) : gR X Y nx ny nl fs x' y' (opp d) = some (x, y, w) := by
  obtain ⟨h1, h2, h3⟩ := gR_some h
  have h4 := gE_some h3
  exact gR_of h4.2.2.2.1 h4.2.2.2.2.1 (gE_sym x y d x' y' w h1 h2 hd h3)
/-- a way on the net is a way of straight and clear lines -/
theorem pth_clear {first : Int} {sx sy : Nat} {ds : List Nat} {ps : List (Nat × Nat)} {x y d : Nat} {c : Co} (hX : ∀ i j, i < j → j < nx → X i < X j) (hY : ∀ i j, i < j → j < ny → Y i < Y j) (hx : sx < nx) (hy : sy < ny) (h : Pth (gE X Y nx ny nl fs) first sx sy ds ps x y d c) :
    2 ≤ ps.length ∧ d < 4 ∧ ptOf X Y ps 0 = (X sx, Y sy) ∧ ptOf X Y ps (ps.length - 1) = (X x, Y y) ∧ Wy ((List.range nl).map fs) (X sx, Y sy) (short (ptOf X Y ps) ps.length).reverse d c := by
  have h1 := (pth_gR hx hy h).1
  have h2 := pth_wy (E := gR X Y nx ny nl fs) (X := X) (Y := Y) (fs := (List.range nl).map fs) (fun x y d x' y' w hd hE => by
    obtain ⟨g1, g2, g3⟩ := gR_some hE
    exact ⟨gE_str hX hY g1 g2 hd g3, gE_clear g3⟩) h1
  exact ⟨h2.1, h2.2.1, h2.2.2.1, h2.2.2.2.1, h2.2.2.2.2.2⟩
end
end Go.Proofs.Ytegmokdhfmgdgaa.Rt
