/- What a step of a search puts into the queue. Nothing here speaks of a program. -/
import Derived.Test.YtegmokdhfmgdgaaRtGrid
namespace Go.Proofs.Ytegmokdhfmgdgaa.Rt
open Go.RowKit Go.Frm Go.Frm.Rt

def mvX (d : Nat) (x : Int) : Int := if d = 0 then x + 1 else if d = 2 then x - 1 else x
def mvY (d : Nat) (y : Int) : Int := if d = 1 then y + 1 else if d = 3 then y - 1 else y
def inB (nx ny : Nat) (x y : Int) : Bool := decide (0 ≤ x) && decide (0 ≤ y) && decide (x < nx) && decide (y < ny)
/-- the net of lines, without what enters a rectangle -/
def gE (X Y : Nat → Int) (nx ny nl : Nat) (fs : Nat → Fr) : Net := fun x y d =>
  if inB nx ny (mvX d x) (mvY d y) = true then
    if hitsB fs nl (X x, Y y) (X (mvX d x).toNat, Y (mvY d y).toNat) = true then none
    else some ((mvX d x).toNat, (mvY d y).toNat, dist (X x, Y y) (X (mvX d x).toNat, Y (mvY d y).toNat))
  else none
/-- may a way go on in a direction -/
def mayB (first : Int) (s : St) (d : Nat) : Bool := if s.back < 0 then (first == -1 || first == (d : Int)) else decide ((d + 2) % 4 ≠ s.d)
theorem mayB_iff (first : Int) (s : St) (d : Nat) : mayB first s d = true ↔ may first s d := by
  unfold mayB may dirOk
  split
  · simp
  · simp
structure Stp (E : Net) (first : Int) (s : St) (k : Nat) (dn : Nat → Nat → Nat → Bool) (qn : Nat) (f : Nat → St) (d qn' : Nat) (f' : Nat → St) : Prop where
  le : qn' ≤ qn + d
  q1 : ∀ t, Mem qn' f' t → Mem qn f t ∨ ∃ d' x y wd, d' < d ∧ may first s d' ∧ E s.x s.y d' = some (x, y, wd) ∧ t = succS s k d' x y wd
  q2 : ∀ t, Mem qn f t → Mem qn' f' t
  q3 : ∀ d' x y wd, d' < d → may first s d' → E s.x s.y d' = some (x, y, wd) → dn x y d' = true ∨ Mem qn' f' (succS s k d' x y wd)
section
variable {E : Net} {first : Int} {s : St} {k : Nat} {dn : Nat → Nat → Nat → Bool} {qn : Nat} {f : Nat → St} {d qn' : Nat} {f' : Nat → St}
theorem Stp.zero : Stp E first s k dn qn f 0 qn f := ⟨by omega, fun t h => .inl h, fun t h => h, fun d' x y wd h => by omega⟩
theorem Stp.skip (h : Stp E first s k dn qn f d qn' f') (hn : ¬ may first s d ∨ E s.x s.y d = none) : Stp E first s k dn qn f (d + 1) qn' f' := by
  refine ⟨by have := h.le; omega, fun t ht => ?_, h.q2, fun d' x y wd hd hm hE => ?_⟩
  · rcases h.q1 t ht with h1 | ⟨d', x, y, wd, h1, h2⟩
    · exact .inl h1
    · exact .inr ⟨d', x, y, wd, by omega, h2⟩
  · by_cases e : d' = d
    · subst e
      rcases hn with h1 | h1
      · exact absurd hm h1
      · rw [h1] at hE
        cases hE
    · exact h.q3 d' x y wd (by omega) hm hE
theorem Stp.push (h : Stp E first s k dn qn f d qn' f') {x y : Nat} {wd : Int} (hm : may first s d) (hE : E s.x s.y d = some (x, y, wd)) {qn2 : Nat} {f2 : Nat → St} (hle : qn2 ≤ qn' + 1)
    (hq : ∀ t, Mem qn2 f2 t ↔ Mem qn' f' t ∨ (dn x y d = false ∧ t = succS s k d x y wd)) : Stp E first s k dn qn f (d + 1) qn2 f2 := by
  refine ⟨by have := h.le; omega, fun t ht => ?_, fun t ht => (hq t).2 (.inl (h.q2 t ht)), fun d' x' y' wd' hd hm' hE' => ?_⟩
  · rcases (hq t).1 ht with h0 | ⟨_, h0⟩
    · rcases h.q1 t h0 with h1 | ⟨d', x, y, wd, h1, h2⟩
      · exact .inl h1
      · exact .inr ⟨d', x, y, wd, by omega, h2⟩
    · exact .inr ⟨d, x, y, wd, by omega, hm, hE, h0⟩
  · by_cases e : d' = d
    · subst e
      rw [hE] at hE'
      injection hE' with hE'
      injection hE' with e1 hE'
      injection hE' with e2 e3
      subst e1 e2 e3
      cases hd2 : dn x y d' with
      | true => exact .inl rfl
      | false => exact .inr ((hq _).2 (.inr ⟨hd2, rfl⟩))
    · rcases h.q3 d' x' y' wd' (by omega) hm' hE' with h1 | h1
      · exact .inl h1
      · exact .inr ((hq _).2 (.inl h1))
end
/-- what a search reads -/
structure GR (w : World) (b base : Nat) (xA yA lA : Option Addr) (nx ny nl : Nat) (X Y : Nat → Int) (fs : Nat → Fr) : Prop where
  xs : RdI w xA (tab nx X)
  ys : RdI w yA (tab ny Y)
  l : RdF w lA nl 4 (frF fs)
  xd : ∀ ad, xA = some ad → ¬ Dg b base ad.block
  yd : ∀ ad, yA = some ad → ¬ Dg b base ad.block
  ld : ∀ ad, lA = some ad → ¬ Dg b base ad.block
theorem rdI_chg {D : Nat → Prop} {a w : World} {A : Option Addr} {zs : List Int} (hr : RdI a A zs) (h : Chg D a w) (hg : ∀ ad, A = some ad → ¬ D ad.block) : RdI w A zs := by
  rcases hr with rfl | ⟨b', off', e, hc⟩
  · exact .inl rfl
  · subst e
    exact rd_chg (.inr ⟨b', off', rfl, hc⟩) h (hg _ rfl)
theorem rdF_chg {D : Nat → Prop} {a w : World} {A : Option Addr} {n size : Nat} {f : Nat → Nat → Value} (hr : RdF a A n size f) (h : Chg D a w) (hg : ∀ ad, A = some ad → ¬ D ad.block) : RdF w A n size f := by
  rcases hr with h0 | ⟨b', off', e, hc⟩
  · exact .inl h0
  · subst e
    refine .inr ⟨b', off', rfl, fun i hi j hj => ?_⟩
    have h1 := hc i hi j hj
    have hl := World.block_lt_of_cell? _ _ h1
    rw [World.cell?_of_block (h.block b' hl (hg _ rfl))]
    exact h1
section
variable {w w' : World} {b base : Nat} {xA yA lA : Option Addr} {nx ny nl : Nat} {X Y : Nat → Int} {fs : Nat → Fr}
theorem GR.chg (h : GR w b base xA yA lA nx ny nl X Y fs) (hc : Chg (Dg b base) w w') : GR w' b base xA yA lA nx ny nl X Y fs :=
  ⟨rdI_chg h.xs hc h.xd, rdI_chg h.ys hc h.yd, rdF_chg h.l hc h.ld, h.xd, h.yd, h.ld⟩
theorem GR.below (h : GR w b base xA yA lA nx ny nl X Y fs) (hb : Below w.heap.size w w') : GR w' b base xA yA lA nx ny nl X Y fs := h.chg (Chg.of_below hb)
end
end Go.Proofs.Ytegmokdhfmgdgaa.Rt
