/- The contracts of slices.Grow on a nil slice of ints, and of slices.Concat. -/
import Derived.Test.YtdikfldogmbeaaaDoorChars
import Derived.Lib.AppendZerosOnto
import Derived.Lib.AppendZeros
namespace Go.Proofs.YtdikfldogmbeaaaDoor.Cat
open Go.RowKit Go.Frm Cha

def GrowPost (n : Nat) (w : World) (e : Ending) (w' : World) : Prop := ∃ g G, e = .returned (.slice (some ⟨g, 0, none⟩) 0 G) ∧ w'.ownsRow w.heap.size 3 1 (.slice (some ⟨g, 0, none⟩) 0 G) 0 [] ∧ Below w.heap.size w w' ∧ n ≤ G
set_option maxRecDepth 100000 in
set_option maxHeartbeats 1000000 in
theorem grow_ok (n : Nat) (h1 : 1 ≤ n) (h2 : n ≤ 100000) (w : World) : Calls Tryd.prog 27 #[.slice none 0 0, .int .i64 (n : Int)] w (GrowPost n w) := by
  obtain ⟨i, hi, hz0, hsize, hby⟩ := info_parts int_info
  have hrz : ∀ ty, (Builtin.append_ #[22, 3] ty #[.slice none 0 0, .int .i64 (n : Int)]).run Tryd.prog w = _ := fun ty =>
    Lib.run_append_grow_zeros w 22 3 ty 3 i (.int .i64 0) .i64 .i64 Tryd.underlying22 Tryd.underlying3 hi hz0 none 0 0 [] (run_firstCells_none (w := w.drew) i.size 0 0 0) n (by omega) (by rw [hsize]; omega) (by omega) (by omega) (by rw [hby]; omega) (growslice_fits (by omega) (by rw [hby]; omega))
  have hGn : 0 + n ≤ grownCap w (0 + n) 0 3 := grownCap_ge w _ _ _
  have hGm := grownCap_le_maxLen w (0 + n) 0 3 (by unfold maxLen; omega)
  generalize grownCap w (0 + n) 0 3 = G at *
  have hcs : (([] : List Value).toArray ++ Builtin.zeroCells (Value.int .i64 0).cells n ++ Builtin.zeroCells (Value.int .i64 0).cells (G - (0 + n))).size = G * 1 := by
    simp [size_zeroCells, Value.cells]
    omega
  generalize (([] : List Value).toArray ++ Builtin.zeroCells (Value.int .i64 0).cells n ++ Builtin.zeroCells (Value.int .i64 0).cells (G - (0 + n))) = cs at *
  rw [Nat.zero_add] at hrz hGn
  have hown : (w.drew.alloc (.cells cs 3)).ownsRow w.heap.size 3 1 (.slice (some ⟨w.heap.size, 0, none⟩) 0 G) 0 [] :=
    ⟨rfl, .inr ⟨w.heap.size, G, cs, rfl, Nat.le_refl _, heap_alloc_new w.drew _, Nat.zero_le _, hGm, hcs, by simp⟩⟩
  have hbel : Below w.heap.size w (w.drew.alloc (.cells cs 3)) := (below_drewN (Below.refl _ _) 1).alloc (Nat.le_refl _) _
  have Hown := hide hown
  have Hbel := hide hbel
  have hG63 : G ≤ 9223372036854775807 := by unfold maxLen at hGm; omega
  have hn0 : ¬ ((n : Int) < 0) := by omega
  have hn1 : (n : Int) > 0 := by omega
  clear hown hbel hcs hGm hi hz0 hsize hby
  go_enter Tryd.func27, Tryd.ntmps27
  go_wp2_with (at_builtin; refine Lib.wpList_append_run _ rfl _ _ _ _ rfl _ _ rfl rfl _ _ (hrz _) ?_)
  all_goals
    go_ret
    exact ⟨w.heap.size, G, rfl, Hown.out, Hbel.out, hGn⟩

/-- the first k lists, joined -/
def cat (zf : Nat → List Int) : Nat → List Int
  | 0 => []
  | k + 1 => cat zf k ++ zf k
theorem cat_le (zf : Nat → List Int) {k n : Nat} (h : k ≤ n) : (cat zf k).length ≤ (cat zf n).length := by
  induction n with
  | zero => obtain rfl : k = 0 := by omega
            exact Nat.le_refl _
  | succ n ih =>
    by_cases hk : k = n + 1
    · subst hk; exact Nat.le_refl _
    · have := ih (by omega)
      show _ ≤ (cat zf n ++ zf n).length
      rw [List.length_append]
      omega
theorem cat_succ_len (zf : Nat → List Int) (k : Nat) : (cat zf (k + 1)).length = (cat zf k).length + (zf k).length := by
  show (cat zf k ++ zf k).length = _
  rw [List.length_append]
def CatPost (zf : Nat → List Int) (n : Nat) (w : World) (e : Ending) (w' : World) : Prop := ∃ A c, e = .returned (.slice A (cat zf n).length c) ∧ w'.ownsRow w.heap.size 3 1 (.slice A (cat zf n).length c) (cat zf n).length ((cat zf n).map (Value.int .i64)) ∧ Below w.heap.size w w'
theorem run_none (w : World) (ty : TypeId) (base : Nat) (A X : Option Addr) (n c cx : Nat) (xs : List Value) (hown : w.ownsRow base 3 1 (.slice A n c) n xs) : (Builtin.append_ #[22, 22] ty #[.slice A n c, .slice X 0 cx]).run Tryd.prog w = .ok (.slice A n c) w := by
  obtain ⟨i, hi, _, _, _⟩ := info_parts int_info
  have hu := run_underlying (P := Tryd.prog) Tryd.underlying22
  rcases hown.2 with ⟨hv, rfl⟩ | ⟨g, cap, cur, hv, _, _, hnc, _⟩
  · injection hv with h1 h2 h3
    subst h1 h3
    cases X <;> simp [Builtin.append_, hu, sizeOf, typeInfo, hi, Builtin.lenOf, Builtin.firstCells, loadCells, loadCellsFrom]
  · injection hv with h1 h2 h3
    subst h1 h3
    cases X <;> simp [Builtin.append_, hu, sizeOf, typeInfo, hi, Builtin.lenOf, Builtin.firstCells, hnc, storeCells, loadCells, loadCellsFrom]

set_option maxRecDepth 100000 in
set_option maxHeartbeats 2000000 in
theorem concat_ok (g n c : Nat) (Af : Nat → Option Addr) (cf : Nat → Nat) (zf : Nat → List Int) (w : World) (hn : n ≤ 1000) (hc : ∀ i, i < n → w.cell? ⟨g, i, none⟩ = some (.slice (Af i) (zf i).length (cf i))) (hr : ∀ i, i < n → RdI w (Af i) (zf i))
    (h1 : 1 ≤ (cat zf n).length) (h2 : (cat zf n).length ≤ 100000) : Calls Tryd.prog 11 #[.slice (some ⟨g, 0, none⟩) n c] w (CatPost zf n w) := by
  have Hc := hide hc
  have Hr := hide hr
  clear hc hr
  have Hle := hide (fun k (h : k ≤ n) => cat_le zf h)
  have Hsu := hide (fun k => cat_succ_len zf k)
  go_enter Tryd.func11, Tryd.ntmps11
  go_wp2_with fail
  go_loopw [3, 11] (fun a b wr => ∃ k : Nat, k ≤ n ∧ b = .int .i64 k ∧ a = .int .i64 ((cat zf k).length : Int) ∧ w = wr) (fun _ b _ => n - (intOf b).toNat)
  case atStart => exact ⟨0, by omega, rfl, rfl, rfl⟩
  case round =>
    obtain ⟨k, hk, rfl, rfl, rfl⟩ := hrel
    by_cases hlt : k < n
    · have hck := Hc.out k hlt
      have hl1 := Hle.out (k + 1) hlt
      have hl2 := Hsu.out k
      rw [hl2] at hl1
      go_wp2_with fail
      go_roundw
      case rel => exact ⟨k + 1, by omega, by go_num, by rw [Hsu.out]; go_num, trivial⟩
      case measure => simp [intOf]; omega
    · have hkn : n = k := by omega
      subst hkn
      have Hg := hide (grow_ok (cat zf n).length h1 h2 w)
      go_wp2_with fail
      refine Hg.out.mono ?_
      rintro e w1 ⟨g1, G, rfl, hown, hb1, hG⟩
      clear Hg
      go_wp2_with fail
      go_loopw [6, 27] (fun a b wr => ∃ k : Nat, k ≤ n ∧ b = .int .i64 k ∧ wr.ownsRow w.heap.size 3 1 a (cat zf k).length ((cat zf k).map (Value.int .i64)) ∧ Below w.heap.size w wr) (fun _ b _ => n - (intOf b).toNat)
      case atStart => exact ⟨0, by omega, rfl, hown, hb1⟩
      case round =>
        clear hown hb1
        obtain ⟨k, hk, rfl, hown, hbl⟩ := hrel
        obtain ⟨A, ca, rfl⟩ := own_form hown
        by_cases hlt : k < n
        · have hck : wr.cell? ⟨g, k, none⟩ = some (.slice (Af k) (zf k).length (cf k)) := by
            have := Hc.out k hlt
            rw [hbl.cell (World.block_lt_of_cell? w _ this)]
            exact this
          have hrk := (Hr.out k hlt).below hbl
          have hl1 := Hle.out (k + 1) hlt
          have hl2 := Hsu.out k
          rw [hl2] at hl1
          rcases Nat.eq_zero_or_pos (zf k).length with hz | hz
          · have hnil : zf k = [] := List.eq_nil_of_length_eq_zero hz
            rw [hz] at hck
            have hrn := fun ty => run_none wr ty w.heap.size A (Af k) (cat zf k).length ca (cf k) _ hown
            have hcat : cat zf (k + 1) = cat zf k := by show cat zf k ++ zf k = _; rw [hnil, List.append_nil]
            have Hcat := hide hcat
            clear hcat hz hnil hl1 hl2 hrk
            go_wp2_with (at_builtin; refine Lib.wpList_append_run _ rfl _ _ _ _ rfl _ _ rfl rfl _ _ (hrn _) ?_)
            go_roundw
            case rel => exact ⟨k + 1, by omega, by go_num, by rw [Hcat.out]; exact hown, hbl⟩
            case measure => simp [intOf]; omega
          · obtain ⟨b, off, hA, hcz⟩ : ∃ b off, Af k = some ⟨b, off, none⟩ ∧ ∀ j, j < (zf k).length → wr.cell? ⟨b, off + j, none⟩ = some (.int .i64 (ix (zf k) j)) := by
              rcases hrk with h | h
              · rw [h] at hz; cases hz
              · exact h
            rw [hA] at hck
            have hnews : ∀ (j : Nat) (u : Value), ((zf k).map (Value.int .i64))[j]? = some u → wr.cell? ((⟨b, off, none⟩ : Addr).add j) = some u := fun j u hu => by
              have hj : j < (zf k).length := by
                have := (List.getElem?_eq_some_iff.1 hu).1
                simpa using this
              rw [Addr.add_lit, hcz j hj]
              have : u = .int .i64 (ix (zf k) j) := by
                simp [hj] at hu
                rw [← hu, ix_eq hj]
              rw [this]
            have hone : ∀ u ∈ (zf k).map (Value.int .i64), u.oneCell' = true := fun u hu => by
              obtain ⟨x, _, rfl⟩ := List.mem_map.1 hu
              rfl
            have Hn := hide hnews
            have Ho := hide hone
            clear hnews hone hcz hA hrk hz
            go_wp2_with (at_builtin; refine wpL_append (news := (zf k).map (Value.int .i64)) rfl rfl Tryd.underlying22 int_info rfl (by decide) rfl rfl hown Hn.out (by simp) Ho.out (by omega) (by omega) hbl.size ?_; intro v1 w3 hown3 hgrow3)
            go_roundw
            case rel => exact ⟨k + 1, by omega, by go_num, by rw [Hsu.out]; show _ ∧ _; rw [show cat zf (k + 1) = cat zf k ++ zf k from rfl, List.map_append]; exact hown3, below_app hbl hbl.size hown hgrow3⟩
            case measure => simp [intOf]; omega
        · have hkn : n = k := by omega
          subst hkn
          go_wp2_with fail
          go_ret
          exact ⟨A, ca, rfl, hown, hbl⟩
end Go.Proofs.YtdikfldogmbeaaaDoor.Cat
