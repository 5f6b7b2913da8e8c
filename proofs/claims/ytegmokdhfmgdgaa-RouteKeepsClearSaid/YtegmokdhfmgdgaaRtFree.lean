/- On a net without rectangles there is always a way. Nothing here speaks of a program. -/
import Derived.Test.YtegmokdhfmgdgaaRtNetPlain
namespace Go.Proofs.Ytegmokdhfmgdgaa.Rt
open Go.RowKit Go.Frm Go.Frm.Rt

def sX (d x n : Nat) : Nat := if d = 0 then x + n else if d = 2 then x - n else x
def sY (d y n : Nat) : Nat := if d = 1 then y + n else if d = 3 then y - n else y
def okS (nx ny d x y n : Nat) : Prop := x < nx ∧ y < ny ∧ (d = 0 → x + n < nx) ∧ (d = 1 → y + n < ny) ∧ (d = 2 → n ≤ x) ∧ (d = 3 → n ≤ y)
section
variable {X Y : Nat → Int} {nx ny : Nat} {fs : Nat → Fr} {first : Int} {sx sy : Nat}
theorem free_step {x y d : Nat} (hd : d < 4) (h : okS nx ny d x y 1) : ∃ w, gE X Y nx ny 0 fs x y d = some (sX d x 1, sY d y 1, w) := by
  obtain ⟨h1, h2, h3, h4, h5, h6⟩ := h
  have e1 : mvX d (x : Nat) = (sX d x 1 : Nat) := by
    unfold mvX sX
    rcases (show d = 0 ∨ d = 1 ∨ d = 2 ∨ d = 3 by omega) with rfl | rfl | rfl | rfl <;> simp
    have := h5 rfl
    omega
  have e2 : mvY d (y : Nat) = (sY d y 1 : Nat) := by
    unfold mvY sY
    rcases (show d = 0 ∨ d = 1 ∨ d = 2 ∨ d = 3 by omega) with rfl | rfl | rfl | rfl <;> simp
    have := h6 rfl
    omega
  have e3 : inB nx ny (sX d x 1 : Nat) (sY d y 1 : Nat) = true := by
    unfold inB sX sY
    rcases (show d = 0 ∨ d = 1 ∨ d = 2 ∨ d = 3 by omega) with rfl | rfl | rfl | rfl <;> simp <;> omega
  unfold gE
  rw [e1, e2, if_pos e3, Int.toNat_natCast, Int.toNat_natCast]
  have e4 : hitsB fs 0 (X x, Y y) (X (sX d x 1), Y (sY d y 1)) = false := rfl
  rw [e4, if_neg (by decide)]
  exact ⟨_, rfl⟩
theorem sX_add (d x n : Nat) : sX d (sX d x n) 1 = sX d x (n + 1) := by unfold sX; split <;> (try split) <;> omega
theorem sY_add (d y n : Nat) : sY d (sY d y n) 1 = sY d y (n + 1) := by unfold sY; split <;> (try split) <;> omega
theorem ok_next {d x y n : Nat} (h : okS nx ny d x y (n + 1)) : okS nx ny d x y n ∧ okS nx ny d (sX d x n) (sY d y n) 1 := by
  obtain ⟨h1, h2, h3, h4, h5, h6⟩ := h
  refine ⟨⟨h1, h2, fun e => ?_, fun e => ?_, fun e => ?_, fun e => ?_⟩, ?_⟩
  · have := h3 e; omega
  · have := h4 e; omega
  · have := h5 e; omega
  · have := h6 e; omega
  · unfold okS sX sY
    by_cases e0 : d = 0
    · subst e0; have := h3 rfl; simp; omega
    · by_cases e1 : d = 1
      · subst e1; have := h4 rfl; simp; omega
      · by_cases e2 : d = 2
        · subst e2; have := h5 rfl; simp; omega
        · by_cases e3 : d = 3
          · subst e3; have := h6 rfl; simp; omega
          · simp [e0, e1, e2, e3]; exact ⟨h1, h2⟩
def At_ (X Y : Nat → Int) (nx ny : Nat) (fs : Nat → Fr) (first : Int) (sx sy x y d : Nat) : Prop := ∃ ds ps c, Pth (gE X Y nx ny 0 fs) first sx sy ds ps x y d c
theorem leg {x y d0 d : Nat} (h : At_ X Y nx ny fs first sx sy x y d0) (hd : d < 4) (hr : (d + 2) % 4 ≠ d0) : ∀ n, 1 ≤ n → okS nx ny d x y n → At_ X Y nx ny fs first sx sy (sX d x n) (sY d y n) d
  | 0, h1, _ => by omega
  | 1, _, ho => by
    obtain ⟨ds, ps, c, hp⟩ := h
    obtain ⟨w, hE⟩ := free_step (X := X) (Y := Y) (fs := fs) hd ho
    exact ⟨_, _, _, hp.next hd hr hE⟩
  | n + 2, _, ho => by
    obtain ⟨h1, h2⟩ := ok_next ho
    obtain ⟨ds, ps, c, hp⟩ := leg h hd hr (n + 1) (by omega) h1
    obtain ⟨w, hE⟩ := free_step (X := X) (Y := Y) (fs := fs) hd h2
    rw [sX_add, sY_add] at hE
    exact ⟨_, _, _, hp.next hd (by omega) hE⟩
theorem leg0 {d : Nat} (hd : d < 4) (hf : dirOk first d) : ∀ n, 1 ≤ n → okS nx ny d sx sy n → At_ X Y nx ny fs first sx sy (sX d sx n) (sY d sy n) d
  | 0, h1, _ => by omega
  | 1, _, ho => by
    obtain ⟨w, hE⟩ := free_step (X := X) (Y := Y) (fs := fs) hd ho
    exact ⟨_, _, _, Pth.one hd hf hE⟩
  | n + 2, _, ho => by
    obtain ⟨h1, h2⟩ := ok_next ho
    obtain ⟨ds, ps, c, hp⟩ := leg0 hd hf (n + 1) (by omega) h1
    obtain ⟨w, hE⟩ := free_step (X := X) (Y := Y) (fs := fs) hd h2
    rw [sX_add, sY_add] at hE
    exact ⟨_, _, _, hp.next hd (by omega) hE⟩
/-- the corner at which a side of the ring begins -/
def corX (nx d : Nat) : Nat := if d = 0 ∨ d = 1 then nx - 1 else 0
def corY (ny d : Nat) : Nat := if d = 1 ∨ d = 2 then ny - 1 else 0
theorem legTo {x y d0 d x' y' n : Nat} (h : At_ X Y nx ny fs first sx sy x y d0) (hd : d < 4) (hr : (d + 2) % 4 ≠ d0) (hn : 1 ≤ n) (ho : okS nx ny d x y n) (ex : sX d x n = x') (ey : sY d y n = y') : At_ X Y nx ny fs first sx sy x' y' d := by
  rw [← ex, ← ey]
  exact leg h hd hr n hn ho
theorem from_corner {tx ty l0 : Nat} (hl : l0 < 4) (hx : 0 < tx ∧ tx + 1 < nx) (hy : 0 < ty ∧ ty + 1 < ny) : ∀ r d, d < 4 → (d + r) % 4 = (l0 + 2) % 4 → At_ X Y nx ny fs first sx sy (corX nx d) (corY ny d) d → At_ X Y nx ny fs first sx sy tx ty l0
  | 0, d, hd, hr, h => by
    rcases (show d = 0 ∨ d = 1 ∨ d = 2 ∨ d = 3 by omega) with rfl | rfl | rfl | rfl
    · obtain rfl : l0 = 2 := by omega
      have h1 := legTo (d := 1) (x' := nx - 1) (y' := ty) (n := ty) h (by decide) (by decide) (by omega) (by unfold okS corX corY; simp; omega) (by simp [sX, corX]) (by simp [sY, corY])
      exact legTo (d := 2) (n := nx - 1 - tx) h1 (by decide) (by decide) (by omega) (by unfold okS; simp; omega) (by simp [sX]; omega) (by simp [sY])
    · obtain rfl : l0 = 3 := by omega
      have h1 := legTo (d := 2) (x' := tx) (y' := ny - 1) (n := nx - 1 - tx) h (by decide) (by decide) (by omega) (by unfold okS corX corY; simp; omega) (by simp [sX, corX]; omega) (by simp [sY, corY])
      exact legTo (d := 3) (n := ny - 1 - ty) h1 (by decide) (by decide) (by omega) (by unfold okS; simp; omega) (by simp [sX]) (by simp [sY]; omega)
    · obtain rfl : l0 = 0 := by omega
      have h1 := legTo (d := 3) (x' := 0) (y' := ty) (n := ny - 1 - ty) h (by decide) (by decide) (by omega) (by unfold okS corX corY; simp; omega) (by simp [sX, corX]) (by simp [sY, corY]; omega)
      exact legTo (d := 0) (n := tx) h1 (by decide) (by decide) (by omega) (by unfold okS; simp; omega) (by simp [sX]) (by simp [sY])
    · obtain rfl : l0 = 1 := by omega
      have h1 := legTo (d := 0) (x' := tx) (y' := 0) (n := tx) h (by decide) (by decide) (by omega) (by unfold okS corX corY; simp; omega) (by simp [sX, corX]) (by simp [sY, corY])
      exact legTo (d := 1) (n := ty) h1 (by decide) (by decide) (by omega) (by unfold okS; simp; omega) (by simp [sX]) (by simp [sY])
  | r + 1, d, hd, hr, h => by
    rcases (show d = 0 ∨ d = 1 ∨ d = 2 ∨ d = 3 by omega) with rfl | rfl | rfl | rfl
    · exact from_corner hl hx hy r 1 (by decide) (by omega) (legTo (d := 1) (n := ny - 1) h (by decide) (by decide) (by omega) (by unfold okS corX corY; simp; omega) (by simp [sX, corX]) (by simp [sY, corY]))
    · exact from_corner hl hx hy r 2 (by decide) (by omega) (legTo (d := 2) (n := nx - 1) h (by decide) (by decide) (by omega) (by unfold okS corX corY; simp; omega) (by simp [sX, corX]) (by simp [sY, corY]))
    · exact from_corner hl hx hy r 3 (by decide) (by omega) (legTo (d := 3) (n := ny - 1) h (by decide) (by decide) (by omega) (by unfold okS corX corY; simp; omega) (by simp [sX, corX]) (by simp [sY, corY]))
    · exact from_corner hl hx hy r 0 (by decide) (by omega) (legTo (d := 0) (n := nx - 1) h (by decide) (by decide) (by omega) (by unfold okS corX corY; simp; omega) (by simp [sX, corX]) (by simp [sY, corY]))
/-- from a place within to a place within, whatever the first and the last direction -/
theorem free_way {tx ty f0 l0 : Nat} (hf4 : f0 < 4) (hf : dirOk first f0) (hl : l0 < 4) (hsx : 0 < sx ∧ sx + 1 < nx) (hsy : 0 < sy ∧ sy + 1 < ny) (hx : 0 < tx ∧ tx + 1 < nx) (hy : 0 < ty ∧ ty + 1 < ny) : At_ X Y nx ny fs first sx sy tx ty l0 := by
  rcases (show f0 = 0 ∨ f0 = 1 ∨ f0 = 2 ∨ f0 = 3 by omega) with rfl | rfl | rfl | rfl
  · have h0 := leg0 (X := X) (Y := Y) (fs := fs) (nx := nx) (ny := ny) (sx := sx) (sy := sy) hf4 hf (nx - 1 - sx) (by omega) (by unfold okS; simp; omega)
    exact from_corner hl hx hy ((l0 + 2 + 3) % 4) 1 (by decide) (by omega) (legTo (d := 1) (n := ny - 1 - sy) h0 (by decide) (by decide) (by omega) (by unfold okS sX sY; simp; omega) (by simp [sX, corX]; omega) (by simp [sY, corY]; omega))
  · have h0 := leg0 (X := X) (Y := Y) (fs := fs) (nx := nx) (ny := ny) (sx := sx) (sy := sy) hf4 hf (ny - 1 - sy) (by omega) (by unfold okS; simp; omega)
    exact from_corner hl hx hy ((l0 + 2 + 2) % 4) 2 (by decide) (by omega) (legTo (d := 2) (n := sx) h0 (by decide) (by decide) (by omega) (by unfold okS sX sY; simp; omega) (by simp [sX, corX]) (by simp [sY, corY]; omega))
  · have h0 := leg0 (X := X) (Y := Y) (fs := fs) (nx := nx) (ny := ny) (sx := sx) (sy := sy) hf4 hf sx (by omega) (by unfold okS; simp; omega)
    exact from_corner hl hx hy ((l0 + 2 + 1) % 4) 3 (by decide) (by omega) (legTo (d := 3) (n := sy) h0 (by decide) (by decide) (by omega) (by unfold okS sX sY; simp; omega) (by simp [sX, corX]) (by simp [sY, corY]))
  · have h0 := leg0 (X := X) (Y := Y) (fs := fs) (nx := nx) (ny := ny) (sx := sx) (sy := sy) hf4 hf sy (by omega) (by unfold okS; simp; omega)
    exact from_corner hl hx hy ((l0 + 2) % 4) 0 (by decide) (by omega) (legTo (d := 0) (n := nx - 1 - sx) h0 (by decide) (by decide) (by omega) (by unfold okS sX sY; simp; omega) (by simp [sX, corX]; omega) (by simp [sY, corY]))
end
end Go.Proofs.Ytegmokdhfmgdgaa.Rt
