/- The contract of slices.Clone on drawings. -/
import Derived.Test.YtnmikhmbnpiadaaDoorShapeSet
namespace Go.Proofs.YtnmikhmbnpiadaaDoor.Shp
open Go.RowKit Go.Frm

def ClonePost (n : Nat) (G : Nat → Nat → Int) (T : Nat → Nat → ByteArray) (w : World) (e : Ending) (w' : World) : Prop :=
  ∃ (A : Option Addr) (c : Nat), e = .returned (.slice A n c) ∧ w'.ownsRow w.heap.size 23 12 (.slice A n c) n (rowF n 12 (shV G T)) ∧ Below w.heap.size w w'
theorem rowF_one {n size : Nat} {f : Nat → Nat → Value} (h : ∀ i j, (f i j).oneCell' = true) : ∀ u ∈ rowF n size f, u.oneCell' = true := by
  induction n with
  | zero => intro u hu; simp [rowF_zero] at hu
  | succ n ih =>
    intro u hu
    rw [rowF_succ] at hu
    rcases List.mem_append.1 hu with h1 | h1
    · exact ih u h1
    · obtain ⟨j, _, rfl⟩ := List.mem_map.1 h1
      exact h n j
theorem shV_one (G : Nat → Nat → Int) (T : Nat → Nat → ByteArray) (i j : Nat) : (shV G T i j).oneCell' = true := by
  unfold shV
  split <;> rfl

set_option maxRecDepth 100000 in
set_option maxHeartbeats 2000000 in
theorem clone_ok (n : Nat) (G : Nat → Nat → Int) (T : Nat → Nat → ByteArray) (A : Option Addr) (c base : Nat) (w : World) (hN : n ≤ 1000) (ho : w.ownsRow base 23 12 (.slice A n c) n (rowF n 12 (shV G T))) :
    Calls Tryd.prog 13 #[.slice A n c] w (ClonePost n G T w) := by
  have hr := RdF.of_own ho
  have hq := fun (wx : World) (a : Option Addr) (n c : Nat) => Lib.run_eql_slice_nil (P := Tryd.prog) wx 25 23 a n c 0 0 Tryd.underlying25
  have hform := ho.2
  rcases hform with ⟨hv, hn⟩ | ⟨g, cap, cur, hv, _, hg, _⟩
  · injection hv with hA hn' hc'
    subst hA hc'
    have Hn := hide hn
    clear hn
    go_enter Tryd.func13, Tryd.ntmps13
    go_wp2_with fail
    go_ret
    refine ⟨none, 0, ?_, ?_, Below.refl _ _⟩
    · show Ending.returned (.slice none 0 0) = _
      rw [Hn.out]
    · rw [Hn.out]
      exact World.ownsRow_nil _ _ _ _
  · injection hv with hA _ hc'
    subst hA hc'
    have hc0 : ∀ (j : Nat) (u : Value), (rowF n 12 (shV G T))[j]? = some u → (w.alloc (.cells #[] 23)).cell? ((⟨g, 0, none⟩ : Addr).add j) = some u := fun j u hu => by
      have h1 := ho.cells (g := g) rfl j u hu
      rw [World.cell?_alloc_lt w _ _ (World.block_lt_of_cell? w _ h1)]
      exact h1
    go_enter Tryd.func13, Tryd.ntmps13
    go_wp2_with (at_builtin; refine wpL_append (size := 12) rfl rfl Tryd.underlying25 shape_info rfl (by decide) rfl rfl (World.ownsRow_lit (base := w.heap.size) (size := 12) w #[] 0 (Nat.le_refl _) (by omega) rfl) hc0 (rowF_length _ _ _) (rowF_one (shV_one G T)) (by omega) (by omega) (by simp) ?_; intro v1 w1 hown1 hgrow1)
    go_ret
    simp only [Nat.zero_add] at hown1
    obtain ⟨A1, c1, rfl⟩ := own_form hown1
    exact ⟨A1, c1, rfl, by simpa using hown1, ((Below.refl _ _).alloc (Nat.le_refl _) _).grown hgrow1 (by simp) (fun k hk => ((World.ownsRow_lit (e := 23) (base := w.heap.size) (size := 12) w #[] 0 (Nat.le_refl _) (by omega) rfl).lt k hk).1)⟩

/-- a row stays where a store goes to another block -/
theorem rdF_far {w : World} {b off n size : Nat} {f : Nat → Nat → Value} (h : RdF w (some ⟨b, off, none⟩) n size f) {p : Addr} (hp : b ≠ p.block) (u : Value) : RdF (w.setCell p u) (some ⟨b, off, none⟩) n size f := by
  rcases h with h0 | ⟨b', off', he, hc⟩
  · exact .inl h0
  · injection he with he
    injection he with he1 he2
    subst he1 he2
    refine .inr ⟨b, off, rfl, fun i j hi hj => ?_⟩
    rw [World.cell?_setCell_other (h := fun hh => hp (by rw [hh]))]
    exact hc i j hi hj
end Go.Proofs.YtnmikhmbnpiadaaDoor.Shp
