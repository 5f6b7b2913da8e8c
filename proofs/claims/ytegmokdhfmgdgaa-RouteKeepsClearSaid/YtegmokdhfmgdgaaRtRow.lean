/- The points of a way have small coordinates. Nothing here speaks of a program. -/
import Derived.Test.YtegmokdhfmgdgaaRtLenPlain
namespace Go.Proofs.Ytegmokdhfmgdgaa.Rt
open Go.RowKit Go.Frm Go.Frm.Rt

section
variable {X Y : Nat → Int} {nx ny nl : Nat} {fs : Nat → Fr}
theorem pth_in {first : Int} {sx sy : Nat} {ds : List Nat} {ps : List (Nat × Nat)} {x y d : Nat} {c : Co} (hx : sx < nx) (hy : sy < ny) (h : Pth (gE X Y nx ny nl fs) first sx sy ds ps x y d c) : ∀ z, z ∈ ps → z.1 < nx ∧ z.2 < ny := by
  induction h with
  | one hd hf hE =>
    have := gE_some hE
    intro z hz
    rcases List.mem_cons.1 hz with rfl | hz
    · exact ⟨hx, hy⟩
    · obtain rfl := List.mem_singleton.1 hz
      exact ⟨this.2.2.2.1, this.2.2.2.2.1⟩
  | next h hd hr hE ih =>
    have := gE_some hE
    intro z hz
    rcases List.mem_append.1 hz with hz | hz
    · exact ih z hz
    · obtain rfl := List.mem_singleton.1 hz
      exact ⟨this.2.2.2.1, this.2.2.2.2.1⟩
end
theorem short_mem {P : Nat → Pt} {n : Nat} (h0 : 0 < n) {z : Pt} (h : z ∈ short P n) : ∃ i, i < n ∧ z = P i := by
  unfold short at h
  rcases List.mem_append.1 h with h | h
  · obtain ⟨i, hi, rfl⟩ := List.mem_map.1 h
    have := kept_lt _ i hi
    exact ⟨i, by omega, rfl⟩
  · exact ⟨n - 1, by omega, List.mem_singleton.1 h⟩
theorem spx_small {p q : Pt} {first last : Int} {L : List Fr} {l : List Pt} (hp : bnd p.1 ∧ bnd p.2) (hq : bnd q.1 ∧ bnd q.2) (hL : ∀ f, f ∈ L → frB f) (h : SPx p q first last L true l) : ∀ z, z ∈ l → smallP z := by
  have h3 := spx_at h
  have hf : ∀ i, i < L.length → frB (L.getD i ⟨0, 0, 0, 0⟩) := fun i hi => by
    rw [List.getD_eq_getElem?_getD, List.getElem?_eq_getElem hi]
    exact hL _ (List.getElem_mem hi)
  obtain ⟨ix1, px, qx⟩ := axX_mem p q (fun i => L.getD i ⟨0, 0, 0, 0⟩) L.length
  obtain ⟨iy1, py, qy⟩ := axY_mem p q (fun i => L.getD i ⟨0, 0, 0, 0⟩) L.length
  have HX := axis_bnd (crd_bnd hp.1 hq.1 (frP_bnd hf).1) (by rw [(crd_len p.1 q.1 (fun i => L.getD i ⟨0, 0, 0, 0⟩) L.length).1]; omega)
  have HY := axis_bnd (crd_bnd hp.2 hq.2 (frP_bnd hf).2) (by rw [(crd_len p.2 q.2 (fun i => L.getD i ⟨0, 0, 0, 0⟩) L.length).2]; omega)
  rcases h3 with ⟨hs, _, rfl⟩ | ⟨_, ⟨_, ds, ps, d, c, hpt, _, _, rfl⟩ | ⟨h4, _⟩⟩
  · intro z hz
    obtain rfl := List.mem_singleton.1 hz
    have a1 := bnd_le hp.1
    have a2 := bnd_le hp.2
    exact ⟨a1.1, a1.2, a2.1, a2.2⟩
  · intro z hz
    obtain ⟨a1, _⟩ := inc_pos ix1 px
    obtain ⟨a3, _⟩ := inc_pos iy1 py
    have h0 : 0 < ps.length := by cases hpt <;> simp
    obtain ⟨i, hi, rfl⟩ := short_mem h0 hz
    have hm : ps.getD i (0, 0) ∈ ps := by
      rw [List.getD_eq_getElem?_getD, List.getElem?_eq_getElem hi]
      exact List.getElem_mem hi
    obtain ⟨b1, b2⟩ := pth_in a1 a3 hpt _ hm
    have c1 := HX _ b1
    have c2 := HY _ b2
    exact ⟨c1.1, c1.2, c2.1, c2.2⟩
  · cases h4
theorem obs_frB {fs : Nat → Fr} {n : Nat} {p q : Pt} {g : Int} (hf : ∀ i, i < n → okF (fs i)) (hg : 0 ≤ g ∧ g ≤ 1000) : ∀ f, f ∈ obs fs n p q g → frB f := fun f h2 => by
  unfold obs at h2
  obtain ⟨k, hk, h2⟩ := List.mem_flatMap.1 h2
  exact obF_bnd (hf k (List.mem_range.1 hk)) hg _ h2
theorem find_small {p q : Pt} {first last : Int} (h1 : -1 ≤ first ∧ first ≤ 3) (h2 : -1 ≤ last ∧ last ≤ 3) {fs : Nat → Fr} {n : Nat} (hf : ∀ i, i < n → okF (fs i)) (hp : okR p.1 ∧ okR p.2) (hq : okR q.1 ∧ okR q.2) {g : Int} {m : Nat} {Q : Nat → Pt} (h : FPost p q first last fs n g ((List.range m).map Q)) : ∀ i, i < m → smallP (Q i) := fun i hi => by
  have hbp : bnd p.1 ∧ bnd p.2 := by unfold okR at hp; unfold bnd; omega
  have hbq : bnd q.1 ∧ bnd q.2 := by unfold okR at hq; unfold bnd; omega
  have hz : Q i ∈ (List.range m).map Q := List.mem_map.2 ⟨i, List.mem_range.2 hi, rfl⟩
  rcases h with ⟨rfl, h⟩ | ⟨rfl, _, h⟩ | ⟨rfl, _, _, is, h⟩
  · exact spx_small hbp hbq (obs_frB hf (by decide)) h _ hz
  · exact spx_small hbp hbq (obs_frB hf (by decide)) h _ hz
  · obtain rfl := spx_free h1 h2 _ _ h
    exact spx_small hbp hbq (fun _ h => by cases h) h _ hz
theorem find_gap {p q : Pt} {first last : Int} {fs : Nat → Fr} {n : Nat} {g : Int} {l : List Pt} (h : FPost p q first last fs n g l) : g = 100 ∨ g = 0 ∨ g = -1 := by
  rcases h with ⟨rfl, h⟩ | ⟨rfl, _, h⟩ | ⟨rfl, _, _, is, h⟩
  · exact .inl rfl
  · exact .inr (.inl rfl)
  · exact .inr (.inr rfl)
end Go.Proofs.Ytegmokdhfmgdgaa.Rt
