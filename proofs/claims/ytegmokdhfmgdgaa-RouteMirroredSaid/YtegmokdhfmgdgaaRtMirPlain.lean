/- A mirrored drawing: rectangles, points, obstacles. Nothing here speaks of a program. -/
import Derived.Test.YtegmokdhfmgdgaaRtClearFind
namespace Go.Proofs.Ytegmokdhfmgdgaa.Rt
open Go.RowKit Go.Frm Go.Frm.Rt

def mirF (f : Fr) : Fr := ⟨-f.x1, f.y0, -f.x0, f.y1⟩
def mirP (p : Pt) : Pt := (-p.1, p.2)
theorem dec_eq {a b : Prop} [Decidable a] [Decidable b] (h : a ↔ b) : decide a = decide b := by
  by_cases h1 : a
  · rw [decide_eq_true h1, decide_eq_true (h.1 h1)]
  · rw [decide_eq_false h1, decide_eq_false (fun h2 => h1 (h.2 h2))]
theorem insB_mir (f : Fr) (p : Pt) : insB (mirF f) (mirP p) = insB f p := by
  unfold insB mirF mirP
  dsimp only
  rw [dec_eq (show -p.1 > -f.x1 ↔ p.1 < f.x1 by omega), dec_eq (show -p.1 < -f.x0 ↔ p.1 > f.x0 by omega), Bool.and_comm (decide (p.1 < f.x1))]
theorem widF_mir (f : Fr) (g : Int) : widF (mirF f) g = mirF (widF f g) := by
  unfold widF mirF
  dsimp only
  rw [show -f.x1 - g = -(f.x1 + g) by omega, show -f.x0 + g = -(f.x0 - g) by omega]
theorem obF_mir (f : Fr) (p q : Pt) (g : Int) : obF (mirF f) (mirP p) (mirP q) g = (obF f p q g).map mirF := by
  unfold obF
  rw [widF_mir, insB_mir, insB_mir, insB_mir, insB_mir]
  split
  · rfl
  · split <;> rfl
theorem obs_mir (fs : Nat → Fr) (n : Nat) (p q : Pt) (g : Int) : obs (fun i => mirF (fs i)) n (mirP p) (mirP q) g = (obs fs n p q g).map mirF := by
  unfold obs
  rw [List.map_flatMap]
  congr 1
  funext i
  exact obF_mir _ _ _ _
theorem mnI_neg (a b : Int) : mnI (-a) (-b) = -mxI a b := by unfold mnI mxI; split <;> split <;> omega
theorem mxI_neg (a b : Int) : mxI (-a) (-b) = -mnI a b := by unfold mnI mxI; split <;> split <;> omega
theorem hitB_mir (f : Fr) (a b : Pt) : hitB (mirF f) (mirP a) (mirP b) = hitB f a b := by
  unfold hitB mirF mirP
  dsimp only
  rw [mnI_neg, mxI_neg, dec_eq (show -mxI a.1 b.1 < -f.x0 ↔ mxI a.1 b.1 > f.x0 by omega), dec_eq (show -mnI a.1 b.1 > -f.x1 ↔ mnI a.1 b.1 < f.x1 by omega), Bool.and_comm (decide (mxI a.1 b.1 > f.x0))]
theorem hitsB_mir (fs : Nat → Fr) (n : Nat) (a b : Pt) : hitsB (fun i => mirF (fs i)) n (mirP a) (mirP b) = hitsB fs n a b := by
  unfold hitsB
  congr 1
  funext i
  exact hitB_mir _ _ _
theorem dist_mir (a b : Pt) : dist (mirP a) (mirP b) = dist a b := by
  unfold dist mirP
  dsimp only
  rw [mxI_comm (b.1 - a.1), show -b.1 - -a.1 = a.1 - b.1 by omega, show -a.1 - -b.1 = b.1 - a.1 by omega]
end Go.Proofs.Ytegmokdhfmgdgaa.Rt
