/- The contract of (*grid).push. -/
import Derived.Test.YtegmokdhfmgdgaaRtGrid
namespace Go.Proofs.Ytegmokdhfmgdgaa.Rt
open Go.RowKit Go.Frm Go.Frm.Rt

section
variable {w w' : World} {b base gd N : Nat} {xV yV lV : Value} {dn : Nat → Bool} {cA : Option Addr} {cn cc : Nat} {cl : Nat → St} {qA : Option Addr} {qn qc : Nat} {f : Nat → St}
theorem two_dg (h : w.ownsRow base 61 6 (.slice qA qn qc) qn (rowF qn 6 (stF f))) : ∀ k, Two b (Value.ownBlock (.slice qA qn qc)) k → Dg b base k := fun k hk => by
  rcases hk with h1 | h1
  · exact .inl h1
  · exact .inr (own_blk_ge h h1.symm).1
/-- something has been done with the queue -/
theorem GQ.queued (h : GQ w b base gd N xV yV lV dn cA cn cc cl qA qn qc f) {qA' : Option Addr} {qn' qc' : Nat} {f' : Nat → St}
    (hg : Blk w' b 53 (#[xV, yV, lV, .slice (some ⟨gd, 0, none⟩) N N, .slice qA qn qc, .slice cA cn cc].setIfInBounds 4 (.slice qA' qn' qc')))
    (ho : w'.ownsRow base 61 6 (.slice qA' qn' qc') qn' (rowF qn' 6 (stF f'))) (hh : HP qn' f') (hc : Chg (Two b (Value.ownBlock (.slice qA qn qc))) w w')
    (hs : ∀ k, Value.ownBlock (.slice qA' qn' qc') = some k → some k = Value.ownBlock (.slice qA qn qc) ∨ w.heap.size ≤ k) : GQ w' b base gd N xV yV lV dn cA cn cc cl qA' qn' qc' f' := by
  refine ⟨hg, h.dne.chg hc ?_, h.gdb, h.gdn, h.bb, Nat.le_trans h.bs hc.size, ho, own_keep h.clo hc ?_, ?_, hh⟩
  · rintro (h1 | h1)
    · exact h.gdn h1
    · have := (own_blk_ge h.que h1.symm).1
      have := h.gdb
      omega
  · intro k hk
    rintro (h1 | h1)
    · have := (own_blk_ge h.clo hk).1
      have := h.bb
      omega
    · exact h.sep k hk h1.symm
  · intro k hk hk2
    rcases hs k hk2 with h1 | h1
    · exact h.sep k hk h1.symm
    · have := (own_blk_ge h.clo hk).2
      omega
set_option maxRecDepth 100000 in
set_option maxHeartbeats 4000000 in
theorem gpush_ok {A : Option Addr} {nx ny c : Nat} (h : GQ w b base gd N (.slice A nx c) yV lV dn cA cn cc cl qA qn qc f) (hN : N = 4 * nx * ny) (hnx : nx ≤ 1000) (hny : ny ≤ 1000) (hqn : qn ≤ 9999999) (s : St) (hx : s.x < nx) (hy : s.y < ny) (hd : s.d < 4) :
    Calls Try.prog 34 #[.pointer (some ⟨b, 0, none⟩), .agg (stC s)] w fun e w' => e = .returned (.tuple #[]) ∧ ∃ qA' qn' qc' f', GQ w' b base gd N (.slice A nx c) yV lV dn cA cn cc cl qA' qn' qc' f' ∧ qn' ≤ qn + 1 ∧
      (∀ t, Mem qn' f' t ↔ Mem qn f t ∨ (dn (ixN nx s.x s.y s.d) = false ∧ t = s)) ∧ Chg (Two b (Value.ownBlock (.slice qA qn qc))) w w' ∧ (∀ k, Value.ownBlock (.slice qA' qn' qc') = some k → some k = Value.ownBlock (.slice qA qn qc) ∨ w.heap.size ≤ k) := by
  have hi := ixN_lt hx hy hd
  rw [← hN] at hi
  have Hbx : Hid (stC s = #[.int .i64 (s.x : Nat), .int .i64 (s.y : Nat), .int .i64 (s.d : Nat), .int .i64 s.co.b, .int .i64 s.co.l, .int .i64 s.back]) := hide rfl
  have HG := hide (h.alloc (.cells #[.int .i64 (s.x : Nat), .int .i64 (s.y : Nat), .int .i64 (s.d : Nat), .int .i64 s.co.b, .int .i64 s.co.l, .int .i64 s.back] 61))
  have HC := hide ((Chg.refl (Two b (Value.ownBlock (.slice qA qn qc))) w).alloc (.cells #[.int .i64 (s.x : Nat), .int .i64 (s.y : Nat), .int .i64 (s.d : Nat), .int .i64 s.co.b, .int .i64 s.co.l, .int .i64 s.back] 61))
  have hX := Blk.new w 61 #[.int .i64 (s.x : Nat), .int .i64 (s.y : Nat), .int .i64 (s.d : Nat), .int .i64 s.co.b, .int .i64 s.co.l, .int .i64 s.back]
  have HS := hide h
  have HN := hide hN
  clear h hN
  rw [Hbx.out]
  go_enter Try.func34, Try.ntmps34
  go_upto_region 1 with fail
  obtain ⟨g, Hg⟩ : ∃ g, Hid (g = w.heap.size) := ⟨_, rfl⟩
  rw [← Hg.out] at hX
  rw [← Hg.out]
  generalize w.alloc (.cells #[.int .i64 (s.x : Nat), .int .i64 (s.y : Nat), .int .i64 (s.d : Nat), .int .i64 s.co.b, .int .i64 s.co.l, .int .i64 s.back] 61) = w1 at *
  have HI := hide (fun m => index_ok (w := w1.drewN m) (HG.out.drewN m).grid rfl hx hnx (show s.y < 1000 by omega) hd)
  have x0 : w1.cell? ⟨g, 0, none⟩ = some (.int .i64 (s.x : Nat)) := hX.cell 0
  have x1 : w1.cell? ⟨g, 1, none⟩ = some (.int .i64 (s.y : Nat)) := hX.cell 1
  have x2 : w1.cell? ⟨g, 2, none⟩ = some (.int .i64 (s.d : Nat)) := hX.cell 2
  have x3 : w1.cell? ⟨g, 3, none⟩ = some (.int .i64 s.co.b) := hX.cell 3
  have x4 : w1.cell? ⟨g, 4, none⟩ = some (.int .i64 s.co.l) := hX.cell 4
  have x5 : w1.cell? ⟨g, 5, none⟩ = some (.int .i64 s.back) := hX.cell 5
  have g3 : w1.cell? ⟨b, 3, none⟩ = some (.slice (some ⟨gd, 0, none⟩) N N) := HG.out.grid.cell 3
  have gi : w1.cell? ⟨gd, ixN nx s.x s.y s.d, none⟩ = some (.bool (dn (ixN nx s.x s.y s.d))) := HG.out.dne.cell hi
  obtain ⟨j, Hj⟩ : ∃ j, Hid (j = ixN nx s.x s.y s.d) := ⟨_, rfl⟩
  rw [← Hj.out] at HI gi hi
  have i1 : (j : Int) < (N : Int) := by omega
  have i2 : (0 : Int) ≤ (j : Int) := by omega
  cases hdj : dn j with
  | true =>
    rw [hdj] at gi
    have Hdj : Hid (dn (ixN nx s.x s.y s.d) = true) := hide (by rw [← Hj.out]; exact hdj)
    clear hdj hX
    go_quiet ((go_at_call 23; exact Calls.quiet_of_same (HI.out _)))
    go_wp2_with fail
    refine bodyPost_end (results_none rfl _ _ _) rfl ?_
    exact ⟨rfl, qA, qn, qc, f, HG.out.drewN _, by omega, fun t => ⟨.inl, fun h => h.elim id (fun h => absurd h.1 (by rw [Hdj.out]; decide))⟩, HC.out.drewN _, fun k hk => .inl hk.symm⟩
  | false =>
    rw [hdj] at gi
    have Hdj : Hid (dn (ixN nx s.x s.y s.d) = false) := hide (by rw [← Hj.out]; exact hdj)
    clear hdj hX
    go_quiet ((go_at_call 23; exact Calls.quiet_of_same (HI.out _)))
    go_wp2_with fail
    have HG2 := hide (HG.out.drewN nq)
    have HC2 := hide (HC.out.drewN nq)
    have y0 : (w1.drewN nq).cell? ⟨g, 0, none⟩ = some (.int .i64 (s.x : Nat)) := x0
    have y1 : (w1.drewN nq).cell? ⟨g, 1, none⟩ = some (.int .i64 (s.y : Nat)) := x1
    have y2 : (w1.drewN nq).cell? ⟨g, 2, none⟩ = some (.int .i64 (s.d : Nat)) := x2
    have y3 : (w1.drewN nq).cell? ⟨g, 3, none⟩ = some (.int .i64 s.co.b) := x3
    have y4 : (w1.drewN nq).cell? ⟨g, 4, none⟩ = some (.int .i64 s.co.l) := x4
    have y5 : (w1.drewN nq).cell? ⟨g, 5, none⟩ = some (.int .i64 s.back) := x5
    clear x0 x1 x2 x3 x4 x5 g3 gi HI HG HC i1 i2
    generalize w1.drewN nq = w2 at *
    have hgl := World.block_lt_of_cell? _ _ y0
    have hgn : ¬ Two b (Value.ownBlock (.slice qA qn qc)) g := by
      rintro (h1 | h1)
      · have := HS.out.grid.lt
        have := Hg.out
        omega
      · have := (own_blk_ge HS.out.que h1.symm).2
        have := Hg.out
        omega
    have HP1 := hide (push_ok (w := w2.drew) (HG2.out.drewN 1).grid rfl rfl HG2.out.bb HG2.out.bs (show qn ≤ 10000000 by omega) (HG2.out.drewN 1).que HG2.out.hp s)
    rw [Hbx.out] at HP1
    go_region_held3 (fun w' => w'.cell? ⟨g, 0, none⟩ = some (.int .i64 (s.x : Nat)) ∧ w'.cell? ⟨g, 1, none⟩ = some (.int .i64 (s.y : Nat)) ∧ w'.cell? ⟨g, 2, none⟩ = some (.int .i64 (s.d : Nat)) ∧ w'.cell? ⟨g, 3, none⟩ = some (.int .i64 s.co.b) ∧ w'.cell? ⟨g, 4, none⟩ = some (.int .i64 s.co.l) ∧ w'.cell? ⟨g, 5, none⟩ = some (.int .i64 s.back))
      (first | go_keep | (go_split_ands; refine ⟨?_, ?_, ?_, ?_, ?_, ?_⟩ <;> (rw [World.cell?_of_block (hc9.block g hgl hgn)]; assumption)))
      ((go_at_call 40; refine HP1.out.mono ?_; rintro e9 w9 ⟨rfl, qA', qc', f', hg9, ho9, hh9, hm9, hc9, hs9⟩))
    go_wp2_with fail
    refine bodyPost_end (results_none rfl _ _ _) rfl ?_
    exact ⟨rfl, qA', qn + 1, qc', f', (HG2.out.drewN 1).queued hg9 ho9 hh9 hc9 hs9, Nat.le_refl _, fun t => (hm9 t).trans ⟨fun h => h.imp_right fun e => ⟨Hdj.out, e⟩, fun h => h.imp_right fun e => e.2⟩, (HC2.out.drewN 1).trans hc9, fun k hk => (hs9 k hk).imp_right fun h => Nat.le_trans (HC2.out.drewN 1).size h⟩
end
end Go.Proofs.Ytegmokdhfmgdgaa.Rt
