/- Contracts of (*seq).get, set, strong. -/
import Derived.Test.YtdikfldogmbeaaaDoorBdOver
namespace Go.Proofs.YtdikfldogmbeaaaDoor.Bd
open Go.RowKit Go.Frm

/-- the cells of a sequence -/
def sqC (G ga : Nat) (q : Sq) (ca gw n : Nat) : Array Value := #[.pointer (some ⟨G, 0, none⟩), .slice (some ⟨ga, 0, none⟩) q.n ca, .slice (some ⟨gw, 0, none⟩) n n, .int .i64 q.lv, .int .i64 q.bg, .int .i64 q.en]
/-- a sequence in memory -/
structure QM (w : World) (s G ga ca gw : Nat) (q : Sq) (At : Option Addr) (ct n gc gl : Nat) (base : Int) (go : Nat) (mt : Value) (C : Nat → Int) : Prop where
  sb : Blk w s 65 (sqC G ga q ca gw n)
  pa : Blk w G 44 (paC At ct n gc gl base go mt)
  ra : RdI w (some ⟨ga, 0, none⟩) (tab q.n fun k => (q.A k : Int))
  ow : RdI w (some ⟨gw, 0, none⟩) (tab n q.W)
  cl : BI w gc n C
  lt : ∀ k, k < q.n → q.A k < n
  ne : ga ≠ gc ∧ gw ≠ gc
section
variable {w w' : World} {s G ga ca gw : Nat} {q : Sq} {At : Option Addr} {ct n gc gl : Nat} {base : Int} {go : Nat} {mt : Value} {C C' : Nat → Int}
theorem QM.drewN (h : QM w s G ga ca gw q At ct n gc gl base go mt C) (m : Nat) : QM (w.drewN m) s G ga ca gw q At ct n gc gl base go mt C := ⟨h.sb, h.pa, h.ra, h.ow, h.cl, h.lt, h.ne⟩
theorem QM.gOut (h : QM w s G ga ca gw q At ct n gc gl base go mt C) : s ≠ gc ∧ G ≠ gc := ⟨blk_ne_type h.sb h.cl (by decide), blk_ne_type h.pa h.cl (by decide)⟩
/-- the classes change -/
theorem QM.to (h : QM w s G ga ca gw q At ct n gc gl base go mt C) (hc : BI w' gc n C') (hg : Chg (Is gc) w w') : QM w' s G ga ca gw q At ct n gc gl base go mt C' :=
  ⟨blk_chg h.sb hg h.gOut.1, blk_chg h.pa hg h.gOut.2, rd_chg h.ra hg h.ne.1, rd_chg h.ow hg h.ne.2, hc, h.lt, h.ne⟩
theorem QM.s0 (h : QM w s G ga ca gw q At ct n gc gl base go mt C) : w.cell? ⟨s, 0, none⟩ = some (.pointer (some ⟨G, 0, none⟩)) := h.sb.cell 0
theorem QM.s1 (h : QM w s G ga ca gw q At ct n gc gl base go mt C) : w.cell? ⟨s, 1, none⟩ = some (.slice (some ⟨ga, 0, none⟩) q.n ca) := h.sb.cell 1
theorem QM.s2 (h : QM w s G ga ca gw q At ct n gc gl base go mt C) : w.cell? ⟨s, 2, none⟩ = some (.slice (some ⟨gw, 0, none⟩) n n) := h.sb.cell 2
theorem QM.s3 (h : QM w s G ga ca gw q At ct n gc gl base go mt C) : w.cell? ⟨s, 3, none⟩ = some (.int .i64 q.lv) := h.sb.cell 3
theorem QM.s4 (h : QM w s G ga ca gw q At ct n gc gl base go mt C) : w.cell? ⟨s, 4, none⟩ = some (.int .i64 q.bg) := h.sb.cell 4
theorem QM.s5 (h : QM w s G ga ca gw q At ct n gc gl base go mt C) : w.cell? ⟨s, 5, none⟩ = some (.int .i64 q.en) := h.sb.cell 5
theorem QM.p1 (h : QM w s G ga ca gw q At ct n gc gl base go mt C) : w.cell? ⟨G, 1, none⟩ = some (.slice (some ⟨gc, 0, none⟩) n n) := h.pa.cell 1
theorem QM.at_ (h : QM w s G ga ca gw q At ct n gc gl base go mt C) {k : Nat} (hk : k < q.n) : w.cell? ⟨ga, k, none⟩ = some (.int .i64 (q.A k : Int)) := by
  have h1 := h.ra.get (k := k) (by rw [tab_length]; exact hk)
  rwa [tab_ix _ hk, Nat.zero_add] at h1
theorem QM.own (h : QM w s G ga ca gw q At ct n gc gl base go mt C) {k : Nat} (hk : k < n) : w.cell? ⟨gw, k, none⟩ = some (.int .i64 (q.W k)) := by
  have h1 := h.ow.get (k := k) (by rw [tab_length]; exact hk)
  rwa [tab_ix _ hk, Nat.zero_add] at h1

set_option maxRecDepth 100000 in
set_option maxHeartbeats 2000000 in
/-- a character of the sequence -/
theorem get_in (h : QM w s G ga ca gw q At ct n gc gl base go mt C) {k : Nat} (hk : k < q.n) (z : Int) (hz : z = (k : Int)) :
    Calls Tryd.prog 36 #[.pointer (some ⟨s, 0, none⟩), .int .i64 z] w fun e w' => e = .returned (.int .i64 (C (q.A k))) ∧ ∃ d, w' = w.drewN d := by
  subst hz
  have s0 := h.s0
  have s1 := h.s1
  have p1 := h.p1
  have a1 := h.at_ hk
  have hl := h.lt k hk
  have c1 := h.cl.cell hl
  have hs := h.sb.lt
  have hG := h.pa.lt
  generalize q.n = m at *
  generalize q.A k = i at *
  clear h
  go_enter Tryd.func36, Tryd.ntmps36
  go_wp2_with fail
  go_region
  go_wp2_with fail
  go_ret
  exact ⟨rfl, 1, rfl⟩
set_option maxRecDepth 100000 in
set_option maxHeartbeats 2000000 in
/-- behind the end -/
theorem get_end (h : QM w s G ga ca gw q At ct n gc gl base go mt C) {k : Nat} (hk : q.n ≤ k) (z : Int) (hz : z = (k : Int)) :
    Calls Tryd.prog 36 #[.pointer (some ⟨s, 0, none⟩), .int .i64 z] w fun e w' => e = .returned (.int .i64 q.en) ∧ ∃ d, w' = w.drewN d := by
  subst hz
  have s0 := h.s0
  have s1 := h.s1
  have s5 := h.s5
  have hs := h.sb.lt
  generalize q.n = m at *
  generalize q.en = x at *
  clear h
  go_enter Tryd.func36, Tryd.ntmps36
  go_wp2_with fail
  go_ret
  exact ⟨rfl, 0, rfl⟩
set_option maxRecDepth 100000 in
set_option maxHeartbeats 2000000 in
/-- ahead of the beginning -/
theorem get_begin (h : QM w s G ga ca gw q At ct n gc gl base go mt C) (z : Int) (hz : z = -1) :
    Calls Tryd.prog 36 #[.pointer (some ⟨s, 0, none⟩), .int .i64 z] w fun e w' => e = .returned (.int .i64 q.bg) ∧ ∃ d, w' = w.drewN d := by
  subst hz
  have s4 := h.s4
  have hs := h.sb.lt
  generalize q.bg = x at *
  clear h
  go_enter Tryd.func36, Tryd.ntmps36
  go_wp2_with fail
  go_ret
  exact ⟨rfl, 0, rfl⟩
theorem get_ok (h : QM w s G ga ca gw q At ct n gc gl base go mt C) (k : Nat) (z : Int) (hz : z = (k : Int)) :
    Calls Tryd.prog 36 #[.pointer (some ⟨s, 0, none⟩), .int .i64 z] w fun e w' => e = .returned (.int .i64 (q.get C k)) ∧ ∃ d, w' = w.drewN d := by
  unfold Sq.get
  by_cases hk : k < q.n
  · rw [if_pos hk]; exact get_in h hk z hz
  · rw [if_neg hk]; exact get_end h (by omega) z hz
/-- the one ahead -/
theorem get_pre (h : QM w s G ga ca gw q At ct n gc gl base go mt C) (k : Nat) (hk : k ≤ q.n) (z : Int) (hz : z = (k : Int) - 1) :
    Calls Tryd.prog 36 #[.pointer (some ⟨s, 0, none⟩), .int .i64 z] w fun e w' => e = .returned (.int .i64 (q.pre C k)) ∧ ∃ d, w' = w.drewN d := by
  cases k with
  | zero => exact get_begin h z (by omega)
  | succ k => exact get_in h (k := k) (by omega) z (by omega)

set_option maxRecDepth 100000 in
set_option maxHeartbeats 2000000 in
theorem set_ok (h : QM w s G ga ca gw q At ct n gc gl base go mt C) {k : Nat} (hk : k < q.n) (z x : Int) (hz : z = (k : Int)) :
    Calls Tryd.prog 37 #[.pointer (some ⟨s, 0, none⟩), .int .i64 z, .int .i64 x] w fun e w' => e = .returned (.tuple #[]) ∧ BI w' gc n (q.set C k x) ∧ Chg (Is gc) w w' := by
  subst hz
  have s0 := h.s0
  have s1 := h.s1
  have p1 := h.p1
  have a1 := h.at_ hk
  have hl := h.lt k hk
  have c1 := h.cl.cell hl
  have f1 := h.cl.frozen (q.A k)
  have hs := h.sb.lt
  have hG := h.pa.lt
  have Hc := hide (h.cl.set (q.A k) x)
  have Hg : Hid (Chg (Is gc) w (w.setCell ⟨gc, q.A k, none⟩ (.int .i64 x))) := hide ((Chg.refl _ w).setCell (p := ⟨gc, q.A k, none⟩) (.inl (show Is gc gc from rfl)) _)
  unfold Sq.set
  generalize q.n = m at *
  generalize q.A k = i at *
  clear h
  go_enter Tryd.func37, Tryd.ntmps37
  go_wp2_with fail
  go_region
  go_wp2_with fail
  refine bodyPost_end (results_none rfl _ _ _) rfl ?_
  exact ⟨rfl, Hc.out.drewN 1, Hg.out.drewN 1⟩

set_option maxRecDepth 100000 in
set_option maxHeartbeats 2000000 in
theorem strong_ok (h : QM w s G ga ca gw q At ct n gc gl base go mt C) {k : Nat} (hk : k ≤ q.n) (hn : n ≤ 100000) (hm : q.n ≤ 100000) (z : Int) (hz : z = (k : Int)) :
    Calls Tryd.prog 38 #[.pointer (some ⟨s, 0, none⟩), .int .i64 z] w fun e w' => e = .returned (.int .i64 (q.strong C k)) ∧ ∃ d, w' = w.drewN d := by
  subst hz
  obtain ⟨L, HL⟩ : ∃ L, Hid (L = q.strong C k) := ⟨_, rfl⟩
  rw [← HL.out]
  have H := hide h
  have s4 := h.s4
  have hs := h.sb.lt
  clear h
  go_enter Tryd.func38, Tryd.ntmps38
  go_wp2_with fail
  go_loopw [1] (fun a wr => ∃ j d : Nat, j ≤ k ∧ a = .int .i64 ((j : Int) - 1) ∧ Hid (L = q.strong C j) ∧ wr = w.drewN d) (fun a _ => (intOf a + 1).toNat)
  case atStart => exact ⟨k, 0, Nat.le_refl _, rfl, HL, rfl⟩
  case round =>
    clear HL
    obtain ⟨j, d, hj, rfl, HL, rfl⟩ := hrel
    cases j with
    | zero =>
      have hL := hide (show L = q.bg from HL.out)
      have s4' : (w.drewN d).cell? ⟨s, 4, none⟩ = some (.int .i64 q.bg) := s4
      go_wp2_with fail
      go_ret
      exact ⟨ret_int hL.out.symm, d, rfl⟩
    | succ j =>
      have hs2 := hide (show L = if C (q.A j) == 0 || C (q.A j) == 1 || C (q.A j) == 2 then C (q.A j) else q.strong C j from HL.out)
      have Hg := hide (get_in (H.out.drewN d) (k := j) (by omega) (((j + 1 : Nat) : Int) - 1) (by omega))
      generalize C (q.A j) = v at *
      have i1 : ((j + 1 : Nat) : Int) - 1 = (j : Int) := by omega
      rw [i1] at Hg ⊢
      cases h0 : (v == 0) with
      | true =>
        have Hr : Hid (L = v) := hide (hs2.out.trans (by rw [h0]; rfl))
        clear hs2
        go_wp2_with fail
        refine Hg.out.mono ?_
        rintro e9 w9 ⟨rfl, d2, rfl⟩
        go_wp2_with fail
        go_ret
        exact ⟨ret_int Hr.out.symm, d + d2, by first | rfl | trivial⟩
      | false =>
        cases h1 : (v == 1) with
        | true =>
          have Hr : Hid (L = v) := hide (hs2.out.trans (by rw [h0, h1]; rfl))
          clear hs2
          go_wp2_with fail
          refine Hg.out.mono ?_
          rintro e9 w9 ⟨rfl, d2, rfl⟩
          go_wp2_with fail
          go_ret
          exact ⟨ret_int Hr.out.symm, d + d2, by first | rfl | trivial⟩
        | false =>
          cases h2 : (v == 2) with
          | true =>
            have Hr : Hid (L = v) := hide (hs2.out.trans (by rw [h0, h1, h2]; rfl))
            clear hs2
            go_wp2_with fail
            refine Hg.out.mono ?_
            rintro e9 w9 ⟨rfl, d2, rfl⟩
            go_wp2_with fail
            go_ret
            exact ⟨ret_int Hr.out.symm, d + d2, by first | rfl | trivial⟩
          | false =>
            have Hr : Hid (L = q.strong C j) := hide (hs2.out.trans (by rw [h0, h1, h2]; rfl))
            clear hs2
            go_wp2_with fail
            refine Hg.out.mono ?_
            rintro e9 w9 ⟨rfl, d2, rfl⟩
            go_wp2_with fail
            go_roundw
            case rel => exact ⟨j, d + d2, by omega, by go_num, Hr, by first | rfl | trivial⟩
            case measure => simp [intOf]
end
end Go.Proofs.YtdikfldogmbeaaaDoor.Bd
