/- The ends of a way, and the straight way between two points. Nothing here speaks of a program. -/
import Derived.Test.YtegmokdhfmgdgaaRtFreePost
namespace Go.Proofs.Ytegmokdhfmgdgaa.Rt
open Go.RowKit Go.Frm Go.Frm.Rt

theorem wy_last {fs : List Fr} {s : Pt} {l : List Pt} {d : Nat} {c : Co} (h : Wy fs s l d c) : l.getLast? = some s ∧ 2 ≤ l.length ∧ 0 ≤ c.b := by
  induction h with
  | one h k => exact ⟨rfl, by simp, Int.le_refl _⟩
  | @turn a b l d d' c w h h' k hne ih =>
    refine ⟨?_, by simp, ?_⟩
    · rw [List.getLast?_cons_cons]
      exact ih.1
    · show 0 ≤ c.b + 1
      omega
section
variable {X Y : Nat → Int} {nx ny nl : Nat} {fs : Nat → Fr} {first last : Int} {sx sy tx ty : Nat}
theorem found_ends (hX : ∀ i j, i < j → j < nx → X i < X j) (hY : ∀ i j, i < j → j < ny → Y i < Y j) (hx : sx < nx) (hy : sy < ny) {l : List Pt} (h : Found (gE X Y nx ny nl fs) first last sx sy tx ty X Y l) :
    ∃ d c, Wy ((List.range nl).map fs) (X sx, Y sy) l.reverse d c ∧ l.head? = some (X sx, Y sy) ∧ l.getLast? = some (X tx, Y ty) ∧ dirOk last d ∧ (∀ ds' ps' d' c', Pth (gE X Y nx ny nl fs) first sx sy ds' ps' tx ty d' c' → dirOk last d' → ¬ Co.lt c' c) := by
  obtain ⟨ds, ps, d, c, hp, hl, hm, rfl⟩ := h
  obtain ⟨h1, h2, h3, h4, h5⟩ := pth_clear hX hY hx hy hp
  refine ⟨d, c, h5, ?_, ?_, hl, hm⟩
  · have := (wy_last h5).1
    rw [List.getLast?_reverse] at this
    exact this
  · unfold short
    rw [List.getLast?_append, h4]
    rfl
theorem straight {d : Nat} (hd : d < 4) (hf : dirOk first d) : ∀ n, 1 ≤ n → okS nx ny d sx sy n → ∃ ds ps c, Pth (gE X Y nx ny 0 fs) first sx sy ds ps (sX d sx n) (sY d sy n) d c ∧ c.b = 0
  | 0, h1, _ => by omega
  | 1, _, ho => by
    obtain ⟨w, hE⟩ := free_step (X := X) (Y := Y) (fs := fs) hd ho
    exact ⟨_, _, _, Pth.one hd hf hE, rfl⟩
  | n + 2, _, ho => by
    obtain ⟨h1, h2⟩ := ok_next ho
    obtain ⟨ds, ps, c, hp, hc⟩ := straight hd hf (n + 1) (by omega) h1
    obtain ⟨w, hE⟩ := free_step (X := X) (Y := Y) (fs := fs) hd h2
    rw [sX_add, sY_add] at hE
    refine ⟨_, _, _, hp.next hd (by omega) hE, ?_⟩
    show c.b + bend d d = 0
    unfold bend
    rw [if_pos rfl, hc]
    rfl
end
/-- nothing is in the way between two points of one height -/
theorem free_straight {fs : Nat → Fr} {g : Int} {l : List Pt} (h : FPost (0, 0) (30, 0) (-1) (-1) fs 0 g l) : g = 100 ∧ l = [(0, 0), (30, 0)] := by
  have hfree := spx_free (p := ((0, 0) : Pt)) (q := (30, 0)) (first := -1) (last := -1) (by decide) (by decide)
  have e1 : ∀ g, obs fs 0 (0, 0) (30, 0) g = [] := fun g => rfl
  unfold FPost at h
  rw [e1, e1] at h
  rcases h with ⟨rfl, h⟩ | ⟨rfl, ⟨k, h⟩, _⟩ | ⟨rfl, ⟨k, h⟩, _⟩
  · refine ⟨rfl, ?_⟩
    have h3 := spx_at h
    obtain ⟨ix1, px, qx⟩ := axX_mem (0, 0) (30, 0) (fun i => ([] : List Fr).getD i ⟨0, 0, 0, 0⟩) 0
    obtain ⟨iy1, py, qy⟩ := axY_mem (0, 0) (30, 0) (fun i => ([] : List Fr).getD i ⟨0, 0, 0, 0⟩) 0
    rcases h3 with ⟨hs, _⟩ | ⟨_, ⟨_, hf⟩ | ⟨h4, _⟩⟩
    · exact absurd hs.1 (by decide)
    · obtain ⟨a1, b1⟩ := inc_pos ix1 px
      obtain ⟨a2, b2⟩ := inc_pos ix1 qx
      obtain ⟨a3, b3⟩ := inc_pos iy1 py
      obtain ⟨a4, b4⟩ := inc_pos iy1 qy
      obtain ⟨d, c, hw, hh, hl, _, hm⟩ := found_ends (inc_ix ix1) (inc_ix iy1) a1 a3 hf
      have hlt := pos_lt ix1 px qx (by decide)
      obtain ⟨ds, ps, c', hp, hc'⟩ := straight (X := ix (axX (0, 0) (30, 0) (fun i => ([] : List Fr).getD i ⟨0, 0, 0, 0⟩) 0)) (Y := ix (axY (0, 0) (30, 0) (fun i => ([] : List Fr).getD i ⟨0, 0, 0, 0⟩) 0)) (fs := fun i => ([] : List Fr).getD i ⟨0, 0, 0, 0⟩) (first := -1) (d := 0) (nx := (axX (0, 0) (30, 0) (fun i => ([] : List Fr).getD i ⟨0, 0, 0, 0⟩) 0).length) (ny := (axY (0, 0) (30, 0) (fun i => ([] : List Fr).getD i ⟨0, 0, 0, 0⟩) 0).length) (sx := pos (axX (0, 0) (30, 0) (fun i => ([] : List Fr).getD i ⟨0, 0, 0, 0⟩) 0) (0 : Int)) (sy := pos (axY (0, 0) (30, 0) (fun i => ([] : List Fr).getD i ⟨0, 0, 0, 0⟩) 0) (0 : Int)) (by decide) (.inl rfl)
        (pos (axX (0, 0) (30, 0) (fun i => ([] : List Fr).getD i ⟨0, 0, 0, 0⟩) 0) 30 - pos (axX (0, 0) (30, 0) (fun i => ([] : List Fr).getD i ⟨0, 0, 0, 0⟩) 0) 0) (by
          have h9 : pos (axX (0, 0) (30, 0) (fun i => ([] : List Fr).getD i ⟨0, 0, 0, 0⟩) 0) 0 < pos (axX (0, 0) (30, 0) (fun i => ([] : List Fr).getD i ⟨0, 0, 0, 0⟩) 0) 30 := hlt
          omega) ⟨a1, a3, fun _ => (by
          have h9 : pos (axX (0, 0) (30, 0) (fun i => ([] : List Fr).getD i ⟨0, 0, 0, 0⟩) 0) 0 < pos (axX (0, 0) (30, 0) (fun i => ([] : List Fr).getD i ⟨0, 0, 0, 0⟩) 0) 30 := hlt
          have h10 : pos (axX (0, 0) (30, 0) (fun i => ([] : List Fr).getD i ⟨0, 0, 0, 0⟩) 0) 30 < (axX (0, 0) (30, 0) (fun i => ([] : List Fr).getD i ⟨0, 0, 0, 0⟩) 0).length := a2
          omega), fun h => (by cases h), fun h => (by cases h), fun h => (by cases h)⟩
      have hx9 : sX 0 (pos (axX (0, 0) (30, 0) (fun i => ([] : List Fr).getD i ⟨0, 0, 0, 0⟩) 0) 0) (pos (axX (0, 0) (30, 0) (fun i => ([] : List Fr).getD i ⟨0, 0, 0, 0⟩) 0) 30 - pos (axX (0, 0) (30, 0) (fun i => ([] : List Fr).getD i ⟨0, 0, 0, 0⟩) 0) 0) = pos (axX (0, 0) (30, 0) (fun i => ([] : List Fr).getD i ⟨0, 0, 0, 0⟩) 0) 30 := by
        have h9 : pos (axX (0, 0) (30, 0) (fun i => ([] : List Fr).getD i ⟨0, 0, 0, 0⟩) 0) 0 < pos (axX (0, 0) (30, 0) (fun i => ([] : List Fr).getD i ⟨0, 0, 0, 0⟩) 0) 30 := hlt
        unfold sX
        rw [if_pos rfl]
        omega
      rw [hx9] at hp
      have hmin := hm _ _ _ _ hp (.inl rfl)
      have hme := hw.meas.1
      obtain ⟨_, w2, w3⟩ := wy_last hw
      have hcb : c.b = 0 := by unfold Co.lt at hmin; omega
      rw [List.length_reverse, hcb] at hme
      have e0 : ix (axX (0, 0) (30, 0) (fun i => ([] : List Fr).getD i ⟨0, 0, 0, 0⟩) 0) (pos (axX (0, 0) (30, 0) (fun i => ([] : List Fr).getD i ⟨0, 0, 0, 0⟩) 0) 0) = 0 := b1
      match l, hme, hh, hl with
      | [u, v], _, hh, hl =>
        have h1 : u = (0, 0) := by
          have := Option.some.inj hh
          rw [this]
          exact Prod.ext b1 b3
        have h2 : v = (30, 0) := by
          have : v = _ := Option.some.inj hl
          rw [this]
          exact Prod.ext b2 b4
        rw [h1, h2]
      | [], h, _, _ => simp at h
      | [_], h, _, _ => simp at h
      | _ :: _ :: _ :: _, h, _, _ => simp at h; omega
    · cases h4
  · exact absurd (hfree _ _ h) (by decide)
  · exact absurd (hfree _ _ h) (by decide)
end Go.Proofs.Ytegmokdhfmgdgaa.Rt
