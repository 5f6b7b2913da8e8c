/- What Find's way is like: its ends, its steps, and what it keeps clear of. Nothing here speaks of a program. -/
import Derived.Test.YtegmokdhfmgdgaaRtClearPlain
namespace Go.Proofs.Ytegmokdhfmgdgaa.Rt
open Go.RowKit Go.Frm Go.Frm.Rt

theorem ins_wid {f : Fr} {g : Int} (hg : 0 ≤ g) {p : Pt} (h : insB (widF f g) p = false) : insB f p = false := by
  cases h1 : insB f p with
  | false => rfl
  | true =>
    unfold insB widF at *
    simp only [Bool.and_eq_true, decide_eq_true_eq] at h1
    rw [decide_eq_true (by omega : p.1 > f.x0 - g), decide_eq_true (by omega : p.1 < f.x1 + g), decide_eq_true (by omega : p.2 > f.y0 - g), decide_eq_true (by omega : p.2 < f.y1 + g)] at h
    cases h
/-- what is not near an end is kept clear of -/
theorem clear_obs {fs : Nat → Fr} {n : Nat} {p q a b : Pt} {g : Int} (hg : 0 ≤ g) (hc : Clear (obs fs n p q g) a b) {i : Nat} (hi : i < n) (hx : (fs i).x0 ≤ (fs i).x1) (hy : (fs i).y0 ≤ (fs i).y1)
    (h1 : insB (widF (fs i) g) p = false) (h2 : insB (widF (fs i) g) q = false) (h3 : (widF (fs i) g).x0 ≠ (widF (fs i) g).x1) (h4 : (widF (fs i) g).y0 ≠ (widF (fs i) g).y1) : ¬ Hits (widF (fs i) g) a b := by
  refine hc (widF (fs i) g) ?_ ?_ ?_
  · unfold obs
    refine List.mem_flatMap.2 ⟨i, List.mem_range.2 hi, ?_⟩
    unfold obF
    rw [ins_wid hg h1, ins_wid hg h2, h1, h2]
    simp
  · unfold widF at *
    dsimp only at *
    omega
  · unfold widF at *
    dsimp only at *
    omega
/-- a way from one point to another one -/
def GoodWay (p q : Pt) (L : List Fr) (l : List Pt) : Prop := l.head? = some p ∧ l.getLast? = some q ∧ RevOk L l.reverse
theorem map_getD (L : List Fr) : (List.range L.length).map (fun i => L.getD i ⟨0, 0, 0, 0⟩) = L := by
  refine List.ext_getElem (by simp) (fun i h1 h2 => ?_)
  simp at h1
  simp [h1]
theorem spx_good {p q : Pt} {first last : Int} {L : List Fr} {l : List Pt} (h : SPx p q first last L true l) : GoodWay p q L l := by
  have h3 := spx_at h
  obtain ⟨ix1, px, qx⟩ := axX_mem p q (fun i => L.getD i ⟨0, 0, 0, 0⟩) L.length
  obtain ⟨iy1, py, qy⟩ := axY_mem p q (fun i => L.getD i ⟨0, 0, 0, 0⟩) L.length
  rcases h3 with ⟨hs, _, rfl⟩ | ⟨_, ⟨_, hf⟩ | ⟨h4, _⟩⟩
  · obtain ⟨rfl, _⟩ := hs
    exact ⟨rfl, rfl, trivial⟩
  · obtain ⟨a1, b1⟩ := inc_pos ix1 px
    obtain ⟨a2, b2⟩ := inc_pos ix1 qx
    obtain ⟨a3, b3⟩ := inc_pos iy1 py
    obtain ⟨a4, b4⟩ := inc_pos iy1 qy
    obtain ⟨d, c, hw, hh, hl, _, hm⟩ := found_ends (inc_ix ix1) (inc_ix iy1) a1 a3 hf
    refine ⟨hh.trans (congrArg some (Prod.ext b1 b3)), hl.trans (congrArg some (Prod.ext b2 b4)), ?_⟩
    have h9 := (wy_head hw).1
    rw [map_getD] at h9
    exact h9
  · cases h4
theorem find_good {p q : Pt} {first last : Int} (h1 : -1 ≤ first ∧ first ≤ 3) (h2 : -1 ≤ last ∧ last ≤ 3) {fs : Nat → Fr} {n : Nat} {g : Int} {l : List Pt} (h : FPost p q first last fs n g l) :
    (g = 100 ∨ g = 0 ∨ g = -1) ∧ GoodWay p q (if g = -1 then [] else obs fs n p q g) l := by
  rcases h with ⟨rfl, h⟩ | ⟨rfl, _, h⟩ | ⟨rfl, _, _, is, h⟩
  · exact ⟨.inl rfl, spx_good h⟩
  · exact ⟨.inr (.inl rfl), spx_good h⟩
  · obtain rfl := spx_free h1 h2 _ _ h
    exact ⟨.inr (.inr rfl), spx_good h⟩
end Go.Proofs.Ytegmokdhfmgdgaa.Rt
