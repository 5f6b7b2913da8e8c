/- The contracts of slices.Index and slices.Contains on breaks, and of chancerykeep3.placed. -/
import Derived.Test.YtdhhkcboejhoaaaDoorBreaksPlaces
namespace Go.Proofs.YtdhhkcboejhoaaaDoor.Bre
open Go.RowKit Go.Frm Mtr

theorem plcs_first : plcs (ix [97, 32, 98]) 3 = [(2, 0)] := by decide +kernel
set_option maxRecDepth 100000 in
set_option maxHeartbeats 1000000 in
theorem placed_ok (w : World) (ht : TabM w) : Calls Tryd.prog 12 #[] w fun e w' => e = .returned (.bool true) ∧ Below w.heap.size w w' := by
  have hr : RdI (w.alloc (.cells #[.int .i64 97, .int .i64 32, .int .i64 98] 3)) (some ⟨w.heap.size, 0, none⟩) [97, 32, 98] := rdI_lit w _ _ [97, 32, 98] rfl (by decide)
  have hp := places_ok (some ⟨w.heap.size, 0, none⟩) 3 [97, 32, 98] _ (ht.below ((Below.refl _ _).alloc (Nat.le_refl _) (.cells #[.int .i64 97, .int .i64 32, .int .i64 98] 3))) hr (by decide) (fun j hj => by
    match j, hj with
    | 0, _ => decide
    | 1, _ => decide
    | 2, _ => decide)
  have Hp := hide hp
  clear hp hr ht
  go_enter Tryd.func12, Tryd.ntmps12
  go_wp2_with fail
  refine Hp.out.mono ?_
  rintro e w1 ⟨B, cb, rfl, hown, hb⟩
  rw [show ([97, 32, 98] : List Int).length = 3 from rfl, plcs_first] at hown ⊢
  rw [flat_rowF] at hown
  obtain ⟨b, off, rfl, hc⟩ := (RdF.of_own hown).at_ (show 0 < ([(2, 0)] : List (Int × Int)).length by decide)
  have c0 : w1.cell? ⟨b, off, none⟩ = some (.int .i64 2) := hc 0 (by omega)
  have c1 : w1.cell? ⟨b, off + 1, none⟩ = some (.int .i64 0) := hc 1 (by omega)
  clear hc hown
  go_wp2_with fail
  go_ret
  exact ⟨rfl, (((Below.refl _ _).alloc (Nat.le_refl _) _)).trans (hb.mono (by simp))⟩

set_option maxRecDepth 100000 in
set_option maxHeartbeats 1000000 in
theorem index_ok (A : Option Addr) (c : Nat) (l : List (Int × Int)) (p q : Int) (w : World) (hr : RdF w A l.length 2 (fl l)) (hl : l.length ≤ 100000) :
    Calls Tryd.prog 33 #[.slice A l.length c, .agg #[.int .i64 p, .int .i64 q]] w fun e w' => (∃ r : Int, e = .returned (.int .i64 r) ∧ (0 ≤ r ↔ (p, q) ∈ l)) ∧ Below w.heap.size w w' := by
  have hb0 := Blk.new w 41 #[.int .i64 p, .int .i64 q]
  have hbel0 : Below w.heap.size w (w.alloc (.cells #[.int .i64 p, .int .i64 q] 41)) := (Below.refl _ _).alloc (Nat.le_refl _) _
  have hget : ∀ k, k < l.length → ((l.getD k (0, 0)).1 = p ∧ (l.getD k (0, 0)).2 = q) → (p, q) ∈ l := fun k hk h => by
    rw [List.getD_eq_getElem?_getD, List.getElem?_eq_getElem hk] at h
    simp only [Option.getD_some] at h
    have : (p, q) = l[k] := by rw [← h.1, ← h.2]
    rw [this]
    exact List.getElem_mem hk
  have hnot : (∀ k, k < l.length → ¬ ((l.getD k (0, 0)).1 = p ∧ (l.getD k (0, 0)).2 = q)) → ¬ (p, q) ∈ l := fun h hm => by
    obtain ⟨k, hk, he⟩ := List.getElem_of_mem hm
    refine h k hk ?_
    rw [List.getD_eq_getElem?_getD, List.getElem?_eq_getElem hk]
    simp only [Option.getD_some]
    rw [he]
    exact ⟨rfl, rfl⟩
  have Hget := hide hget
  have Hnot := hide hnot
  clear hget hnot
  generalize l.length = n at *
  go_enter Tryd.func33, Tryd.ntmps33
  go_wp2_with fail
  have hr0 := hr.below hbel0
  generalize w.alloc (.cells #[.int .i64 p, .int .i64 q] 41) = w0 at *
  have c0 : w0.cell? ⟨w.heap.size, 0, none⟩ = some (.int .i64 p) := hb0.cell 0
  have c1 : w0.cell? ⟨w.heap.size, 1, none⟩ = some (.int .i64 q) := hb0.cell 1
  go_loopw [8] (fun a wr => ∃ k d : Nat, k ≤ n ∧ a = .int .i64 k ∧ Hid (∀ j, j < k → ¬ ((l.getD j (0, 0)).1 = p ∧ (l.getD j (0, 0)).2 = q)) ∧ wr = w0.drewN d) (fun a _ => n - (intOf a).toNat)
  case atStart => exact ⟨0, 0, by omega, rfl, (fun j hj => by omega), rfl⟩
  case round =>
    obtain ⟨k, d, hk, rfl, Hno, rfl⟩ := hrel
    by_cases hlt : k < n
    · obtain ⟨b, off, rfl, hc⟩ := hr0.at_ hlt
      have e0 : w0.cell? ⟨b, off + k * 2, none⟩ = some (.int .i64 (l.getD k (0, 0)).1) := hc 0 (by omega)
      have e1 : w0.cell? ⟨b, off + k * 2 + 1, none⟩ = some (.int .i64 (l.getD k (0, 0)).2) := hc 1 (by omega)
      have hgk := Hget.out k hlt
      have hsuc : ¬ ((l.getD k (0, 0)).1 = p ∧ (l.getD k (0, 0)).2 = q) → Hid (∀ j, j < k + 1 → ¬ ((l.getD j (0, 0)).1 = p ∧ (l.getD j (0, 0)).2 = q)) := fun h j hj => by
        by_cases hjk : j = k
        · rw [hjk]; exact h
        · exact Hno.out j (by omega)
      have Hgk := hide hgk
      have Hsuc := hide hsuc
      generalize (l.getD k (0, 0)).1 = x at *
      generalize (l.getD k (0, 0)).2 = y at *
      clear hc hgk hsuc
      by_cases h1 : x = p
      · by_cases h2 : y = q
        · subst h1 h2
          have hm : Hid ((x, y) ∈ l) := Hgk.out ⟨rfl, rfl⟩
          have i0 : (0 : Int) ≤ (k : Int) := by omega
          have i1 : (k : Int) < (n : Int) := by omega
          go_wp2_with fail
          go_quiet (fail)
          go_wp2_with fail
          go_ret
          exact ⟨⟨_, rfl, fun _ => hm.out, fun _ => by omega⟩, below_drewN (below_drewN hbel0 _) _⟩
        · have g1 : (p == x) = true := by rw [h1]; exact beq_self_eq_true p
          have g2 : (q == y) = false := by simpa using fun h => h2 h.symm
          have i0 : (0 : Int) ≤ (k : Int) := by omega
          have i1 : (k : Int) < (n : Int) := by omega
          have HH := hide (Hsuc.out (fun h => h2 h.2))
          clear h1 h2
          go_wp2_with fail
          go_quiet (fail)
          go_wp2_with fail
          go_roundw
          case rel => exact ⟨k + 1, _, by omega, by go_num, HH.out, rfl⟩
          case measure => simp [intOf]; omega
      · have g1 : (p == x) = false := by simpa using fun h => h1 h.symm
        have i0 : (0 : Int) ≤ (k : Int) := by omega
        have i1 : (k : Int) < (n : Int) := by omega
        have HH := hide (Hsuc.out (fun h => h1 h.1))
        clear h1
        go_wp2_with fail
        go_quiet (fail)
        go_wp2_with fail
        go_roundw
        case rel => exact ⟨k + 1, _, by omega, by go_num, HH.out, rfl⟩
        case measure => simp [intOf]; omega
    · obtain rfl : k = n := by omega
      have hm : Hid (¬ (p, q) ∈ l) := Hnot.out Hno.out
      go_wp2_with fail
      go_ret
      exact ⟨⟨_, rfl, fun h => by omega, fun h => absurd h hm.out⟩, below_drewN hbel0 _⟩

set_option maxRecDepth 100000 in
set_option maxHeartbeats 1000000 in
theorem contains_ok (A : Option Addr) (c : Nat) (l : List (Int × Int)) (p q : Int) (w : World) (hr : RdF w A l.length 2 (fl l)) (hl : l.length ≤ 100000) (m : Bool) (hm : m = true ↔ (p, q) ∈ l) :
    Calls Tryd.prog 15 #[.slice A l.length c, .agg #[.int .i64 p, .int .i64 q]] w fun e w' => e = .returned (.bool m) ∧ Below w.heap.size w w' := by
  have hbel0 : Below w.heap.size w (w.alloc (.cells #[.int .i64 p, .int .i64 q] 41)) := (Below.refl _ _).alloc (Nat.le_refl _) _
  have hi := index_ok A c l p q _ (hr.below hbel0) hl
  have Hi := hide hi
  have Hm := hide hm
  clear hi hm
  generalize l.length = n at *
  go_enter Tryd.func15, Tryd.ntmps15
  go_wp2_with fail
  refine Hi.out.mono ?_
  rintro e w1 ⟨⟨r, rfl, hrm⟩, hb⟩
  have hd : m = decide (0 ≤ r) := by rw [Bool.eq_iff_iff, Hm.out]; simp [hrm]
  have Hd := hide hd
  clear hrm hd
  by_cases h0 : 0 ≤ r
  · have hd : Hid (m = true) := by rw [Hd.out]; exact decide_eq_true h0
    go_wp2_with fail
    go_ret
    exact ⟨ret_bool hd.out.symm, hbel0.trans (hb.mono hbel0.size)⟩
  · have hd : Hid (m = false) := by rw [Hd.out]; exact decide_eq_false h0
    go_wp2_with fail
    go_ret
    exact ⟨ret_bool (by rw [Hd.out]), hbel0.trans (hb.mono hbel0.size)⟩
end Go.Proofs.YtdhhkcboejhoaaaDoor.Bre
