/- The contracts of slices.Grow on a nil slice of parts, and of slices.Concat on two slices of parts. -/
import Derived.Test.YtmjhmcjlbcadaaaLnMake
import Derived.Test.YtmjhmcjlbcadaaaLnCatPlain
import Derived.Lib.AppendZerosOnto
import Derived.Lib.AppendZeros
namespace Go.Proofs.Ytmjhmcjlbcadaaa.Ln
open Go.RowKit Go.Frm

def zpart : Value := .agg #[.int .i64 0, .int .i64 0, .int .i64 0, .int .i64 0, .int .i64 0, .bool false]
def GrowP (n : Nat) (w : World) (e : Ending) (w' : World) : Prop := ∃ g G, e = .returned (.slice (some ⟨g, 0, none⟩) 0 G) ∧ w'.ownsRow w.heap.size 39 6 (.slice (some ⟨g, 0, none⟩) 0 G) 0 [] ∧ Below w.heap.size w w' ∧ n ≤ G
set_option maxRecDepth 100000 in
set_option maxHeartbeats 1000000 in
theorem growP_ok (n : Nat) (h1 : 1 ≤ n) (h2 : n ≤ 100000) (w : World) : Calls Try.prog 24 #[.slice none 0 0, .int .i64 (n : Int)] w (GrowP n w) := by
  obtain ⟨i, hi, hz0, hsize, hby⟩ := info_parts part_info
  have hrz : ∀ ty, (Builtin.append_ #[22, 3] ty #[.slice none 0 0, .int .i64 (n : Int)]).run Try.prog w = _ := fun ty =>
    Lib.run_append_grow_zeros w 22 3 ty 39 i zpart .i64 .i64 Try.underlying22 Try.underlying3 hi hz0 none 0 0 [] (run_firstCells_none (w := w.drew) i.size 0 0 0) n (by omega) (by rw [hsize]; omega) (by omega) (by omega) (by rw [hby]; omega) (growslice_fits (by omega) (by rw [hby]; omega))
  have hGn : 0 + n ≤ grownCap w (0 + n) 0 39 := grownCap_ge w _ _ _
  have hGm := grownCap_le_maxLen w (0 + n) 0 39 (by unfold maxLen; omega)
  generalize grownCap w (0 + n) 0 39 = G at *
  have hcs : (([] : List Value).toArray ++ Builtin.zeroCells zpart.cells n ++ Builtin.zeroCells zpart.cells (G - (0 + n))).size = G * 6 := by
    have : zpart.cells.size = 6 := rfl
    simp [size_zeroCells, this]
    omega
  generalize (([] : List Value).toArray ++ Builtin.zeroCells zpart.cells n ++ Builtin.zeroCells zpart.cells (G - (0 + n))) = cs at *
  rw [Nat.zero_add] at hrz hGn
  have hown : (w.drew.alloc (.cells cs 39)).ownsRow w.heap.size 39 6 (.slice (some ⟨w.heap.size, 0, none⟩) 0 G) 0 [] :=
    ⟨rfl, .inr ⟨w.heap.size, G, cs, rfl, Nat.le_refl _, heap_alloc_new w.drew _, Nat.zero_le _, hGm, hcs, by simp⟩⟩
  have hbel : Below w.heap.size w (w.drew.alloc (.cells cs 39)) := (below_drewN (Below.refl _ _) 1).alloc (Nat.le_refl _) _
  have Hown := hide hown
  have Hbel := hide hbel
  have hG63 : G ≤ 9223372036854775807 := by unfold maxLen at hGm; omega
  have hn0 : ¬ ((n : Int) < 0) := by omega
  have hn1 : (n : Int) > 0 := by omega
  clear hown hbel hcs hGm hi hz0 hsize hby
  go_enter Try.func24, Try.ntmps24
  go_wp2_with (at_builtin; refine Lib.wpList_append_run _ rfl _ _ _ _ rfl _ _ rfl rfl _ _ (hrz _) ?_)
  all_goals
    go_ret
    exact ⟨w.heap.size, G, rfl, Hown.out, Hbel.out, hGn⟩

/-- the parts of the first k slices -/
def cnt (Pf : Nat → Pts) : Nat → Nat
  | 0 => 0
  | k + 1 => cnt Pf k + (Pf k).n
def cells (Pf : Nat → Pts) : Nat → List Value
  | 0 => []
  | k + 1 => cells Pf k ++ rowF (Pf k).n 6 (ptV (Pf k))
theorem cnt_le (Pf : Nat → Pts) {k n : Nat} (h : k ≤ n) : cnt Pf k ≤ cnt Pf n := by
  induction n with
  | zero => obtain rfl : k = 0 := by omega
            exact Nat.le_refl _
  | succ n ih =>
    by_cases hk : k = n + 1
    · subst hk; exact Nat.le_refl _
    · have := ih (by omega)
      show _ ≤ cnt Pf n + _
      omega
def CatP (Pf : Nat → Pts) (n : Nat) (w : World) (e : Ending) (w' : World) : Prop := ∃ A c, e = .returned (.slice A (cnt Pf n) c) ∧ w'.ownsRow w.heap.size 39 6 (.slice A (cnt Pf n) c) (cnt Pf n) (cells Pf n) ∧ Below w.heap.size w w'
set_option maxRecDepth 100000 in
set_option maxHeartbeats 2000000 in
theorem concatP_ok (g n c : Nat) (Af : Nat → Option Addr) (cf : Nat → Nat) (Pf : Nat → Pts) (w : World) (hn : n ≤ 1000) (hc : ∀ i, i < n → w.cell? ⟨g, i, none⟩ = some (.slice (Af i) (Pf i).n (cf i))) (hr : ∀ i, i < n → RdF w (Af i) (Pf i).n 6 (ptV (Pf i)))
    (hpos : ∀ i, i < n → 0 < (Pf i).n) (h0 : 0 < n) (h2 : cnt Pf n ≤ 100000) : Calls Try.prog 12 #[.slice (some ⟨g, 0, none⟩) n c] w (CatP Pf n w) := by
  have h1 : 1 ≤ cnt Pf n := by
    have a := cnt_le Pf (show 1 ≤ n by omega)
    have b := hpos 0 h0
    have : cnt Pf 1 = 0 + (Pf 0).n := rfl
    omega
  have Hc := hide hc
  have Hr := hide hr
  have Hpos := hide hpos
  clear hc hr hpos
  have Hle := hide (fun k (h : k ≤ n) => cnt_le Pf h)
  have Hsu : Hid (∀ k, cnt Pf (k + 1) = cnt Pf k + (Pf k).n) := hide (fun k => rfl)
  go_enter Try.func12, Try.ntmps12
  go_wp2_with fail
  go_loopw [3, 11] (fun a b wr => ∃ k : Nat, k ≤ n ∧ b = .int .i64 k ∧ a = .int .i64 (cnt Pf k : Int) ∧ w = wr) (fun _ b _ => n - (intOf b).toNat)
  case atStart => exact ⟨0, by omega, rfl, rfl, rfl⟩
  case round =>
    obtain ⟨k, hk, rfl, rfl, rfl⟩ := hrel
    by_cases hlt : k < n
    · have hck := Hc.out k hlt
      have hl1 := Hle.out (k + 1) hlt
      have hl2 := Hsu.out k
      rw [hl2] at hl1
      go_wp2_with fail
      go_roundw
      case rel => exact ⟨k + 1, by omega, by go_num, by rw [Hsu.out]; go_num, trivial⟩
      case measure => simp [intOf]; omega
    · have hkn : n = k := by omega
      subst hkn
      have Hg := hide (growP_ok (cnt Pf n) h1 h2 w)
      go_wp2_with fail
      refine Hg.out.mono ?_
      rintro e w1 ⟨g1, G, rfl, hown, hb1, hG⟩
      clear Hg
      go_wp2_with fail
      go_loopw [6, 27] (fun a b wr => ∃ k : Nat, k ≤ n ∧ b = .int .i64 k ∧ wr.ownsRow w.heap.size 39 6 a (cnt Pf k) (cells Pf k) ∧ Below w.heap.size w wr) (fun _ b _ => n - (intOf b).toNat)
      case atStart => exact ⟨0, by omega, rfl, hown, hb1⟩
      case round =>
        clear hown hb1
        obtain ⟨k, hk, rfl, hown, hbl⟩ := hrel
        obtain ⟨A, ca, rfl⟩ := own_form hown
        by_cases hlt : k < n
        · have hck : wr.cell? ⟨g, k, none⟩ = some (.slice (Af k) (Pf k).n (cf k)) := by
            have := Hc.out k hlt
            rw [hbl.cell (World.block_lt_of_cell? w _ this)]
            exact this
          have hrk := (Hr.out k hlt).below hbl
          have hpk := Hpos.out k hlt
          have hl1 := Hle.out (k + 1) hlt
          have hl2 := Hsu.out k
          rw [hl2] at hl1
          obtain ⟨b, off, hA, hcz⟩ : ∃ b off, Af k = some ⟨b, off, none⟩ ∧ ∀ i j, i < (Pf k).n → j < 6 → wr.cell? ⟨b, off + i * 6 + j, none⟩ = some (ptV (Pf k) i j) := by
            rcases hrk with h | h
            · omega
            · exact h
          rw [hA] at hck
          have hnews : ∀ (j : Nat) (u : Value), (rowF (Pf k).n 6 (ptV (Pf k)))[j]? = some u → wr.cell? ((⟨b, off, none⟩ : Addr).add j) = some u := fun j u hu => by
            have hj : j < (Pf k).n * 6 := by
              have := (List.getElem?_eq_some_iff.1 hu).1
              rwa [rowF_length] at this
            have hdm : j = (j / 6) * 6 + j % 6 := by omega
            rw [hdm, rowF_get _ _ _ _ _ (show j / 6 < (Pf k).n by omega) (Nat.mod_lt _ (by omega))] at hu
            rw [Addr.add_lit, hdm, ← Nat.add_assoc, hcz _ _ (by omega) (Nat.mod_lt _ (by omega))]
            exact hu
          have hone : ∀ u ∈ rowF (Pf k).n 6 (ptV (Pf k)), u.oneCell' = true := fun u hu => by
            unfold rowF at hu
            obtain ⟨i, _, hi⟩ := List.mem_flatMap.1 hu
            obtain ⟨j, _, rfl⟩ := List.mem_map.1 hi
            unfold ptV
            split <;> rfl
          have Hn := hide hnews
          have Ho := hide hone
          clear hnews hone hcz hA hrk
          go_wp2_with (at_builtin; refine wpL_append (news := rowF (Pf k).n 6 (ptV (Pf k))) rfl rfl Try.underlying22 part_info rfl (by decide) rfl rfl hown Hn.out (by rw [rowF_length]) Ho.out (by omega) (by omega) hbl.size ?_; intro v1 w3 hown3 hgrow3)
          go_roundw
          case rel => exact ⟨k + 1, by omega, by go_num, by rw [Hsu.out]; exact hown3, below_app hbl hbl.size hown hgrow3⟩
          case measure => simp [intOf]; omega
        · have hkn : n = k := by omega
          subst hkn
          go_wp2_with fail
          go_ret
          exact ⟨A, ca, rfl, hown, hbl⟩
/-- two slices joined are the joined parts -/
theorem rowF_cat (P Q : Pts) : rowF P.n 6 (ptV P) ++ rowF Q.n 6 (ptV Q) = rowF (cat P Q).n 6 (ptV (cat P Q)) := by
  have key : ∀ m, m ≤ Q.n → rowF (P.n + m) 6 (ptV (cat P Q)) = rowF P.n 6 (ptV P) ++ rowF m 6 (ptV Q) := by
    intro m
    induction m with
    | zero =>
      intro _
      rw [Nat.add_zero, rowF_zero, List.append_nil]
      refine rowF_congr fun i j hi _ => ?_
      unfold ptV
      split
      · rw [kd_l hi]
      · rw [wd_l hi]
      · rw [st_l hi]
      · rw [sh_l hi]
      · rw [co_l hi]
      · rw [fl_l hi]
    | succ m ih =>
      intro hm
      rw [← Nat.add_assoc, rowF_succ, rowF_succ, ih (by omega), List.append_assoc]
      congr 2
      refine List.map_congr_left fun j _ => ?_
      unfold ptV
      split
      · rw [kd_r]
      · rw [wd_r]
      · rw [st_r]
      · rw [sh_r]
      · rw [co_r]
      · rw [fl_r]
  exact (key Q.n (Nat.le_refl _)).symm
end Go.Proofs.Ytmjhmcjlbcadaaa.Ln
