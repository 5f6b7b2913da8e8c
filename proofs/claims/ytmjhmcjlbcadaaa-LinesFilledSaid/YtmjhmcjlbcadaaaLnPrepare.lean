/- The contract of prepare. Printed by prepgen.py. -/
import Derived.Test.YtmjhmcjlbcadaaaLnCheck
import Derived.Test.YtmjhmcjlbcadaaaLnLine
import Derived.Test.YtmjhmcjlbcadaaaMakes
namespace Go.Proofs.Ytmjhmcjlbcadaaa.Ln
open Go.RowKit Go.Frm

theorem int_info : (Try.prog.info? 3).map (fun i => (i.zero, i.size, i.bytes)) = some (some (.int .i64 0), 1, 8) := by kernel_rfl
theorem make_ints (n : Nat) (hn : n ≤ 100000) (z : Int) (hz : z = (n : Int)) (wx : World) : (Instr.makeSlice 23 (.int .i64 z) (.int .i64 z)).run Try.prog wx = .ok (.slice (some ⟨wx.heap.size, 0, none⟩) n n) (wx.alloc (.cells (madeCells #[.int .i64 0] n) 3)) := by
  obtain ⟨i, hi, hz0, hs, hby⟩ := info_parts int_info
  have h := run_make (P := Try.prog) (w := wx) 23 3 i _ Try.underlying23 hi hz0 .i64 .i64 z z (by omega) (Int.le_refl _) (by rw [hby]; omega) (by omega)
  rw [hs, show z.toNat = n by omega, Nat.mul_one] at h
  exact h
def mkN (n i : Nat) : Nat := if i = 3 then n + 2 else n + 1
/-- the maker while it is made -/
structure PS (w1 : World) (gm h2 h3 h4 h5 n : Nat) (cs : Array Value) (F2 F3 F4 F5 : Nat → Int) (wr : World) : Prop where
  bm : Blk wr gm 54 cs
  b2 : Blk wr h2 3 (tabV (n + 1) fun i => .int .i64 (F2 i)).toArray
  b3 : Blk wr h3 3 (tabV (n + 1) fun i => .int .i64 (F3 i)).toArray
  b4 : Blk wr h4 3 (tabV (n + 1) fun i => .int .i64 (F4 i)).toArray
  b5 : Blk wr h5 3 (tabV (n + 2) fun i => .int .i64 (F5 i)).toArray
  ne : (h2 ≠ h3 ∧ h2 ≠ h4 ∧ h2 ≠ h5 ∧ h3 ≠ h4 ∧ h3 ≠ h5 ∧ h4 ≠ h5)
  low : (w1.heap.size ≤ h2 ∧ w1.heap.size ≤ h3 ∧ w1.heap.size ≤ h4 ∧ w1.heap.size ≤ h5)
  bel : Below w1.heap.size w1 wr
section
variable {w1 wr wx : World} {gm h2 h3 h4 h5 n : Nat} {cs : Array Value} {F2 F3 F4 F5 : Nat → Int}
theorem blk_ne_type {g g' : Nat} {t t' : TypeId} {a b : Array Value} (h : Blk wr g t a) (h' : Blk wr g' t' b) (ht : t ≠ t') : g ≠ g' := fun e => by
  subst e
  have h1 := h.symm.trans h'
  injection h1 with h1
  injection h1 with _ h1
  exact ht h1
theorem PS.below (h : PS w1 gm h2 h3 h4 h5 n cs F2 F3 F4 F5 wr) (hb : Below wr.heap.size wr wx) : PS w1 gm h2 h3 h4 h5 n cs F2 F3 F4 F5 wx :=
  ⟨h.bm.below hb h.bm.lt, h.b2.below hb h.b2.lt, h.b3.below hb h.b3.lt, h.b4.below hb h.b4.lt, h.b5.below hb h.b5.lt, h.ne, h.low, h.bel.trans (hb.mono h.bel.size)⟩
theorem PS.drewN (h : PS w1 gm h2 h3 h4 h5 n cs F2 F3 F4 F5 wr) (m : Nat) : PS w1 gm h2 h3 h4 h5 n cs F2 F3 F4 F5 (wr.drewN m) := h.below (below_drewN (Below.refl _ _) m)
theorem tab_set {g m j : Nat} {F : Nat → Int} (h : Blk wr g 3 (tabV m fun i => .int .i64 (F i)).toArray) (x : Int) : Blk (wr.setCell ⟨g, j, none⟩ (.int .i64 x)) g 3 (tabV m fun i => .int .i64 (upd F j x i)).toArray := by
  have h1 := h.set_ j (.int .i64 x)
  rw [List.setIfInBounds_toArray, tabV_set] at h1
  rwa [tabV_congr (F := fun i => .int .i64 (upd F j x i)) (G := upd (fun i => .int .i64 (F i)) j (.int .i64 x)) (fun i _ => by unfold upd; split <;> rfl)]
theorem tab_cell {g m j : Nat} {F : Nat → Int} (h : Blk wr g 3 (tabV m fun i => .int .i64 (F i)).toArray) (hj : j < m) : wr.cell? ⟨g, j, none⟩ = some (.int .i64 (F j)) := by
  rw [h.cell]
  simp only [List.getElem?_toArray]
  exact tabV_get _ hj
theorem PS.set2 (h : PS w1 gm h2 h3 h4 h5 n cs F2 F3 F4 F5 wr) (j : Nat) (x : Int) : PS w1 gm h2 h3 h4 h5 n cs (upd F2 j x) F3 F4 F5 (wr.setCell ⟨h2, j, none⟩ (.int .i64 x)) :=
  ⟨h.bm.far (p := ⟨h2, j, none⟩) (blk_ne_type h.bm h.b2 (by decide)) _, tab_set h.b2 x, h.b3.far (p := ⟨h2, j, none⟩) (fun e => h.ne.1 e.symm) _, h.b4.far (p := ⟨h2, j, none⟩) (fun e => h.ne.2.1 e.symm) _, h.b5.far (p := ⟨h2, j, none⟩) (fun e => h.ne.2.2.1 e.symm) _, h.ne, h.low, h.bel.setCell (p := ⟨h2, j, none⟩) h.low.1 _⟩
theorem PS.set3 (h : PS w1 gm h2 h3 h4 h5 n cs F2 F3 F4 F5 wr) (j : Nat) (x : Int) : PS w1 gm h2 h3 h4 h5 n cs F2 (upd F3 j x) F4 F5 (wr.setCell ⟨h3, j, none⟩ (.int .i64 x)) :=
  ⟨h.bm.far (p := ⟨h3, j, none⟩) (blk_ne_type h.bm h.b3 (by decide)) _, h.b2.far (p := ⟨h3, j, none⟩) h.ne.1 _, tab_set h.b3 x, h.b4.far (p := ⟨h3, j, none⟩) (fun e => h.ne.2.2.2.1 e.symm) _, h.b5.far (p := ⟨h3, j, none⟩) (fun e => h.ne.2.2.2.2.1 e.symm) _, h.ne, h.low, h.bel.setCell (p := ⟨h3, j, none⟩) h.low.2.1 _⟩
theorem PS.set4 (h : PS w1 gm h2 h3 h4 h5 n cs F2 F3 F4 F5 wr) (j : Nat) (x : Int) : PS w1 gm h2 h3 h4 h5 n cs F2 F3 (upd F4 j x) F5 (wr.setCell ⟨h4, j, none⟩ (.int .i64 x)) :=
  ⟨h.bm.far (p := ⟨h4, j, none⟩) (blk_ne_type h.bm h.b4 (by decide)) _, h.b2.far (p := ⟨h4, j, none⟩) h.ne.2.1 _, h.b3.far (p := ⟨h4, j, none⟩) h.ne.2.2.2.1 _, tab_set h.b4 x, h.b5.far (p := ⟨h4, j, none⟩) (fun e => h.ne.2.2.2.2.2 e.symm) _, h.ne, h.low, h.bel.setCell (p := ⟨h4, j, none⟩) h.low.2.2.1 _⟩
theorem PS.set5 (h : PS w1 gm h2 h3 h4 h5 n cs F2 F3 F4 F5 wr) (j : Nat) (x : Int) : PS w1 gm h2 h3 h4 h5 n cs F2 F3 F4 (upd F5 j x) (wr.setCell ⟨h5, j, none⟩ (.int .i64 x)) :=
  ⟨h.bm.far (p := ⟨h5, j, none⟩) (blk_ne_type h.bm h.b5 (by decide)) _, h.b2.far (p := ⟨h5, j, none⟩) h.ne.2.2.1 _, h.b3.far (p := ⟨h5, j, none⟩) h.ne.2.2.2.2.1 _, h.b4.far (p := ⟨h5, j, none⟩) h.ne.2.2.2.2.2 _, tab_set h.b5 x, h.ne, h.low, h.bel.setCell (p := ⟨h5, j, none⟩) h.low.2.2.2 _⟩
theorem made_tab (m : Nat) : madeCells #[.int .i64 0] m = (tabV m fun _ => .int .i64 0).toArray := by
  have h := madeCells_tab (.int .i64 0) m
  rw [Nat.mul_one] at h
  rw [← h]
theorem PS.congr {G2 G3 G4 G5 : Nat → Int} (h : PS w1 gm h2 h3 h4 h5 n cs F2 F3 F4 F5 wr) (e2 : ∀ i, i ≤ n → F2 i = G2 i) (e3 : ∀ i, i ≤ n → F3 i = G3 i) (e4 : ∀ i, i ≤ n → F4 i = G4 i) (e5 : ∀ i, i ≤ n + 1 → F5 i = G5 i) : PS w1 gm h2 h3 h4 h5 n cs G2 G3 G4 G5 wr :=
  ⟨h.bm, by rw [← tabV_congr (F := fun i => .int .i64 (F2 i)) (fun i hi => by rw [e2 i (by omega)])]; exact h.b2, by rw [← tabV_congr (F := fun i => .int .i64 (F3 i)) (fun i hi => by rw [e3 i (by omega)])]; exact h.b3, by rw [← tabV_congr (F := fun i => .int .i64 (F4 i)) (fun i hi => by rw [e4 i (by omega)])]; exact h.b4, by rw [← tabV_congr (F := fun i => .int .i64 (F5 i)) (fun i hi => by rw [e5 i (by omega)])]; exact h.b5, h.ne, h.low, h.bel⟩
/-- a sum as far as it is known -/
def upto (f : Nat → Int) (k i : Nat) : Int := if i ≤ k then f i else 0
theorem upto_zero {f : Nat → Int} (h : f 0 = 0) (i : Nat) : 0 = upto f 0 i := by
  unfold upto
  split
  · rw [show i = 0 by omega, h]
  · rfl
theorem upto_at {f : Nat → Int} {k i : Nat} (h : i ≤ k) : upto f k i = f i := if_pos h
theorem upto_next {f : Nat → Int} {k i : Nat} : upd (upto f k) (k + 1) (f (k + 1)) i = upto f (k + 1) i := by
  unfold upd upto
  by_cases h : i = k + 1
  · rw [if_pos h, if_pos (by omega), h]
  · rw [if_neg h]
    by_cases h2 : i ≤ k
    · rw [if_pos h2, if_pos (by omega)]
    · rw [if_neg h2, if_neg (by omega)]
end
theorem rdI_tab {g m : Nat} {F : Nat → Int} {wr : World} (h : Blk wr g 3 (tabV m fun i => .int .i64 (F i)).toArray) : RdI wr (some ⟨g, 0, none⟩) (tab m F) :=
  .inr ⟨g, 0, rfl, fun j hj => by
    rw [tab_length] at hj
    rw [tab_ix F hj, Nat.zero_add]
    exact tab_cell h hj⟩
/-- the places where lines begin, as far as they are known -/
def bgF (P : Pts) (m q : Nat) : Int := if m ≤ q ∧ q ≤ P.n then (bg P q : Int) else 0
theorem bgF_next (P : Pts) {m : Nat} (hm : m ≤ P.n) (i : Nat) : upd (bgF P (m + 1)) m (bg P m : Int) i = bgF P m i := by
  unfold upd bgF
  by_cases h : i = m
  · rw [if_pos h, if_pos (by omega), h]
  · rw [if_neg h]
    by_cases h2 : m + 1 ≤ i ∧ i ≤ P.n
    · rw [if_pos h2, if_pos (by omega)]
    · rw [if_neg h2, if_neg (by omega)]
theorem bgF_first (P : Pts) (i : Nat) : upd (fun _ => 0) P.n (P.n : Int) i = bgF P P.n i := by
  unfold upd bgF
  by_cases h : i = P.n
  · rw [if_pos h, if_pos (by omega), h, bg_end]
  · rw [if_neg h, if_neg (by omega)]
def Prep (P : Pts) (ws : List Int) (D : Int) (Ap Aw : Option Addr) (cp cw : Nat) (w : World) (e : Ending) (w' : World) : Prop :=
  ∃ b A2 A3 A4 A5 c2 c3 c4 c5, e = .returned (.pointer (some ⟨b, 0, none⟩)) ∧ Mk w' b P ws D Ap Aw A2 A3 A4 A5 cp cw c2 c3 c4 c5 ∧ Below w.heap.size w w'
set_option maxRecDepth 100000 in
set_option maxHeartbeats 20000000 in
theorem prepare_ok (Ap : Option Addr) (P : Pts) (cp : Nat) (Aw : Option Addr) (ws : List Int) (D : Int) (cw : Nat) (w : World) (hr : RdF w Ap P.n 6 (ptV P)) (hv : VP P) (hw : RdI w Aw ws) :
    Calls Try.prog 16 #[.slice Ap P.n cp, .agg #[.slice Aw ws.length cw, .int .i64 D]] w (Prep P ws D Ap Aw cp cw w) := by
  have few := hv.few
  have Hv := hide hv
  clear hv
  have hbl := (Below.refl w.heap.size w).alloc (Nat.le_refl _) (.cells #[.slice Aw ws.length cw, .int .i64 D] 25)
  have bx := Blk.new w 25 #[.slice Aw ws.length cw, .int .i64 D]
  have hr1 := hr.below hbl
  have hw1 := hw.below hbl
  clear hr hw
  go_enter Try.func16, Try.ntmps16
  go_upto_region 1 with fail
  generalize w.alloc (.cells #[.slice Aw ws.length cw, .int .i64 D] 25) = w1 at *
  generalize hg : w.heap.size = g3 at *
  have m0 : w1.cell? ⟨g3, 0, none⟩ = some (.slice Aw ws.length cw) := bx.cell 0
  have m1 : w1.cell? ⟨g3, 1, none⟩ = some (.int .i64 D) := bx.cell 1
  have Hr := hide (And.intro hr1 (And.intro hw1 hbl))
  clear hr1 hw1 hbl bx
  go_cut [5] (fun v wc => ∃ h2 h3 h4 h5 gm, v = .pointer (some ⟨gm, 0, none⟩) ∧ Blk wc gm 54 #[.slice Ap P.n cp, .slice Aw ws.length cw, .int .i64 D, .slice (some ⟨h2, 0, none⟩) (P.n + 1) (P.n + 1), .slice (some ⟨h3, 0, none⟩) (P.n + 1) (P.n + 1), .slice (some ⟨h4, 0, none⟩) (P.n + 1) (P.n + 1), .slice (some ⟨h5, 0, none⟩) (P.n + 2) (P.n + 2)] ∧
    Blk wc h2 3 (madeCells #[.int .i64 0] (P.n + 1)) ∧ Blk wc h3 3 (madeCells #[.int .i64 0] (P.n + 1)) ∧ Blk wc h4 3 (madeCells #[.int .i64 0] (P.n + 1)) ∧ Blk wc h5 3 (madeCells #[.int .i64 0] (P.n + 2)) ∧
    (h2 ≠ h3 ∧ h2 ≠ h4 ∧ h2 ≠ h5 ∧ h3 ≠ h4 ∧ h3 ≠ h5 ∧ h4 ≠ h5) ∧ (w1.heap.size ≤ h2 ∧ w1.heap.size ≤ h3 ∧ w1.heap.size ≤ h4 ∧ w1.heap.size ≤ h5) ∧ Below w1.heap.size w1 wc)
  case first =>
    have hm1 := make_ints (P.n + 1) (by omega) ((P.n : Int) + 1) (by omega)
    have hm2 := make_ints (P.n + 2) (by omega) ((P.n : Int) + 2) (by omega)
    have q1 : IntKind.i64.wrap ((P.n : Int) + 1) = (P.n : Int) + 1 := IntWalk.i64_in _ (by omega)
    have q2 : IntKind.i64.wrap ((P.n : Int) + 2) = (P.n : Int) + 2 := IntWalk.i64_in _ (by omega)
    refine wp_region_sink (S := fun w' : World => w'.cell? ⟨g3, 0, none⟩ = some (.slice Aw ws.length cw) ∧ w'.cell? ⟨g3, 1, none⟩ = some (.int .i64 D)) 20 (by kernel_rfl) (by kernel_rfl) (by kernel_rfl) (by kernel_rfl) ?hSP (fun hHeld => ?_)
    case hSP => exact ⟨m0, m1⟩
    simp only [List.take_succ_cons, List.take_zero]
    refine wpAnyH_take (i := 0) (v := ?vPn0) rfl (by kernel_rfl) (by kernel_rfl) (by kernel_rfl) (fun _ _ _ h => h) (Or.inl ⟨by rfl, ?hyPn0⟩) (by assumption) ?_
    case hyPn0 => (intro w hSw; (try dsimp only at hSw); go_simp; try with_reducible rfl)
    try simp only [Act.put, List.getElem_toArray, List.getElem_cons_zero, List.setIfInBounds_toArray, List.set_cons_zero, List.set_cons_succ]
    refine wpAnyH_take (i := 1) (v := ?vPn1) rfl (by kernel_rfl) (by kernel_rfl) (by kernel_rfl) (fun _ _ _ h => h) (Or.inl ⟨by rfl, ?hyPn1⟩) (by assumption) ?_
    case hyPn1 => (intro w hSw; (try dsimp only at hSw); go_simp; try with_reducible rfl)
    try simp only [Act.put, List.getElem_toArray, List.getElem_cons_zero, List.getElem_cons_succ, List.setIfInBounds_toArray, List.set_cons_zero, List.set_cons_succ]
    refine wpAnyH_take (i := 2) (v := ?vPn2) rfl (by kernel_rfl) (by kernel_rfl) (by kernel_rfl) (fun _ _ _ h => h) (Or.inl ⟨by rfl, ?hyPn2⟩) (by assumption) ?_
    case hyPn2 => (intro w hSw; (try dsimp only at hSw); go_simp; try with_reducible rfl)
    try simp only [Act.put, List.getElem_toArray, List.getElem_cons_zero, List.getElem_cons_succ, List.setIfInBounds_toArray, List.set_cons_zero, List.set_cons_succ]
    refine wpAnyH_take (i := 3) (v := ?vPn3) rfl (by kernel_rfl) (by kernel_rfl) (by kernel_rfl) (fun _ _ _ h => h) (Or.inl ⟨by rfl, ?hyPn3⟩) (by assumption) ?_
    case hyPn3 => (intro w hSw; (try dsimp only at hSw); go_simp; try with_reducible rfl)
    try simp only [Act.put, List.getElem_toArray, List.getElem_cons_zero, List.getElem_cons_succ, List.setIfInBounds_toArray, List.set_cons_zero, List.set_cons_succ]
    refine wpAnyH_take (i := 4) (v := ?vPn4) rfl (by kernel_rfl) (by kernel_rfl) (by kernel_rfl) (fun _ _ _ h => h) (Or.inl ⟨by rfl, ?hyPn4⟩) (by assumption) ?_
    case hyPn4 => (intro w hSw; (try dsimp only at hSw); go_simp; try with_reducible rfl)
    try simp only [Act.put, List.getElem_toArray, List.getElem_cons_zero, List.getElem_cons_succ, List.setIfInBounds_toArray, List.set_cons_zero, List.set_cons_succ]
    refine wpAnyH_take (i := 6) (v := ?vPn6) rfl (by kernel_rfl) (by kernel_rfl) (by kernel_rfl) (fun _ _ _ h => h) (Or.inl ⟨by rfl, ?hyPn6⟩) (by assumption) ?_
    case hyPn6 => (intro w hSw; (try dsimp only at hSw); go_simp; try with_reducible rfl)
    try simp only [Act.put, List.getElem_toArray, List.getElem_cons_zero, List.getElem_cons_succ, List.setIfInBounds_toArray, List.set_cons_zero, List.set_cons_succ]
    refine wpAnyH_take (i := 7) (v := ?vPn7) rfl (by kernel_rfl) (by kernel_rfl) (by kernel_rfl) (fun _ _ _ h => h) (Or.inl ⟨by rfl, ?hyPn7⟩) (by assumption) ?_
    case hyPn7 => (intro w hSw; (try dsimp only at hSw); go_simp; try with_reducible rfl)
    try simp only [Act.put, List.getElem_toArray, List.getElem_cons_zero, List.getElem_cons_succ, List.setIfInBounds_toArray, List.set_cons_zero, List.set_cons_succ]
    refine wpAnyH_take (i := 8) (v := ?vPn8) rfl (by kernel_rfl) (by kernel_rfl) (by kernel_rfl) (fun _ _ _ h => h) (Or.inl ⟨by rfl, ?hyPn8⟩) (by assumption) ?_
    case hyPn8 => (intro w hSw; (try dsimp only at hSw); go_simp; try with_reducible rfl)
    try simp only [Act.put, List.getElem_toArray, List.getElem_cons_zero, List.getElem_cons_succ, List.setIfInBounds_toArray, List.set_cons_zero, List.set_cons_succ]
    refine wpAnyH_take (i := 10) (v := ?vPn10) rfl (by kernel_rfl) (by kernel_rfl) (by kernel_rfl) (fun _ _ _ h => h) (Or.inl ⟨by rfl, ?hyPn10⟩) (by assumption) ?_
    case hyPn10 => (intro w hSw; (try dsimp only at hSw); go_simp; try with_reducible rfl)
    try simp only [Act.put, List.getElem_toArray, List.getElem_cons_zero, List.getElem_cons_succ, List.setIfInBounds_toArray, List.set_cons_zero, List.set_cons_succ]
    refine wpAnyH_take (i := 11) (v := ?vPn11) rfl (by kernel_rfl) (by kernel_rfl) (by kernel_rfl) (fun _ _ _ h => h) (Or.inl ⟨by rfl, ?hyPn11⟩) (by assumption) ?_
    case hyPn11 => (intro w hSw; (try dsimp only at hSw); go_simp; try with_reducible rfl)
    try simp only [Act.put, List.getElem_toArray, List.getElem_cons_zero, List.getElem_cons_succ, List.setIfInBounds_toArray, List.set_cons_zero, List.set_cons_succ]
    refine wpAnyH_take (i := 12) (v := ?vPn12) rfl (by kernel_rfl) (by kernel_rfl) (by kernel_rfl) (fun _ _ _ h => h) (Or.inl ⟨by rfl, ?hyPn12⟩) (by assumption) ?_
    case hyPn12 => (intro w hSw; (try dsimp only at hSw); go_simp; try with_reducible rfl)
    try simp only [Act.put, List.getElem_toArray, List.getElem_cons_zero, List.getElem_cons_succ, List.setIfInBounds_toArray, List.set_cons_zero, List.set_cons_succ]
    refine wpAnyH_take (i := 14) (v := ?vPn14) rfl (by kernel_rfl) (by kernel_rfl) (by kernel_rfl) (fun _ _ _ h => h) (Or.inl ⟨by rfl, ?hyPn14⟩) (by assumption) ?_
    case hyPn14 => (intro w hSw; (try dsimp only at hSw); go_simp; try with_reducible rfl)
    try simp only [Act.put, List.getElem_toArray, List.getElem_cons_zero, List.getElem_cons_succ, List.setIfInBounds_toArray, List.set_cons_zero, List.set_cons_succ]
    refine wpAnyH_take (i := 15) (v := ?vPn15) rfl (by kernel_rfl) (by kernel_rfl) (by kernel_rfl) (fun _ _ _ h => h) (Or.inl ⟨by rfl, ?hyPn15⟩) (by assumption) ?_
    case hyPn15 => (intro w hSw; (try dsimp only at hSw); go_simp; try with_reducible rfl)
    try simp only [Act.put, List.getElem_toArray, List.getElem_cons_zero, List.getElem_cons_succ, List.setIfInBounds_toArray, List.set_cons_zero, List.set_cons_succ]
    refine wpAnyH_take (i := 16) (v := ?vPn16) rfl (by kernel_rfl) (by kernel_rfl) (by kernel_rfl) (fun _ _ _ h => h) (Or.inl ⟨by rfl, ?hyPn16⟩) (by assumption) ?_
    case hyPn16 => (intro w hSw; (try dsimp only at hSw); go_simp; try with_reducible rfl)
    try simp only [Act.put, List.getElem_toArray, List.getElem_cons_zero, List.getElem_cons_succ, List.setIfInBounds_toArray, List.set_cons_zero, List.set_cons_succ]
    clear hHeld
    refine makes_run (k := 4) (mk := fun i => 5 + 4 * i) (d := fun i => 15 + 4 * i) (V := fun i g => .slice (some ⟨g, 0, none⟩) (mkN P.n i) (mkN P.n i)) (obj := fun i => .cells (madeCells #[.int .i64 0] (mkN P.n i)) 3) _ (listedK := #[true, true, true, true, true, true, true, true, true, true, true, true, true, true, true, true, true, true, false, false]) (fuelK := 2) ⟨by kernel_rfl, fun i hi => ?hMu, fun i j hi hj hij => ⟨by show 5 + 4 * i ≠ 5 + 4 * j; omega, by show 15 + 4 * i ≠ 15 + 4 * j; omega⟩, fun i hi => ?hMd, fun i hi => ?hMo⟩ (Nat.le_of_ble_eq_true (by kernel_rfl)) rfl (by kernel_rfl) (by kernel_rfl) ?hMS ?hMe
    case hMu => rcases (show i = 0 ∨ i = 1 ∨ i = 2 ∨ i = 3 by omega) with rfl | rfl | rfl | rfl <;> rfl
    case hMd => rcases (show i = 0 ∨ i = 1 ∨ i = 2 ∨ i = 3 by omega) with rfl | rfl | rfl | rfl <;> simp
    case hMo =>
      rcases (show i = 0 ∨ i = 1 ∨ i = 2 ∨ i = 3 by omega) with rfl | rfl | rfl | rfl
      · refine ⟨_, rfl, rfl, rfl, by kernel_rfl, fun a' ha wx => ?_⟩
        have he : a'.eval (.tmp 14) = .int .i64 ((P.n : Int) + 1) := by
          show a'.tmps.getD 14 undef = _
          rw [Array.getD_eq_getD_getElem?, ha 14 (by intro j hj; show 14 ≠ 15 + 4 * j; omega)]
          simp
        refine Eq.trans (b := ((Instr.makeSlice 23 (a'.eval (.tmp 14)) (a'.eval (.tmp 14))).run Try.prog wx).andThen fun v w' => .ok (.value v) w') (by unfold execOp; simp) ?_
        rw [he, hm1 wx]
        rfl
      · refine ⟨_, rfl, rfl, rfl, by kernel_rfl, fun a' ha wx => ?_⟩
        have he : a'.eval (.tmp 18) = .int .i64 ((P.n : Int) + 1) := by
          show a'.tmps.getD 18 undef = _
          rw [Array.getD_eq_getD_getElem?, ha 18 (by intro j hj; show 18 ≠ 15 + 4 * j; omega)]
          simp
        refine Eq.trans (b := ((Instr.makeSlice 23 (a'.eval (.tmp 18)) (a'.eval (.tmp 18))).run Try.prog wx).andThen fun v w' => .ok (.value v) w') (by unfold execOp; simp) ?_
        rw [he, hm1 wx]
        rfl
      · refine ⟨_, rfl, rfl, rfl, by kernel_rfl, fun a' ha wx => ?_⟩
        have he : a'.eval (.tmp 22) = .int .i64 ((P.n : Int) + 1) := by
          show a'.tmps.getD 22 undef = _
          rw [Array.getD_eq_getD_getElem?, ha 22 (by intro j hj; show 22 ≠ 15 + 4 * j; omega)]
          simp
        refine Eq.trans (b := ((Instr.makeSlice 23 (a'.eval (.tmp 22)) (a'.eval (.tmp 22))).run Try.prog wx).andThen fun v w' => .ok (.value v) w') (by unfold execOp; simp) ?_
        rw [he, hm1 wx]
        rfl
      · refine ⟨_, rfl, rfl, rfl, by kernel_rfl, fun a' ha wx => ?_⟩
        have he : a'.eval (.tmp 26) = .int .i64 ((P.n : Int) + 2) := by
          show a'.tmps.getD 26 undef = _
          rw [Array.getD_eq_getD_getElem?, ha 26 (by intro j hj; show 26 ≠ 15 + 4 * j; omega)]
          simp
        refine Eq.trans (b := ((Instr.makeSlice 23 (a'.eval (.tmp 26)) (a'.eval (.tmp 26))).run Try.prog wx).andThen fun v w' => .ok (.value v) w') (by unfold execOp; simp) ?_
        rw [he, hm2 wx]
        rfl
    case hMS => exact fun w' hB => ⟨(hB.cell (w := w1.drew) (World.block_lt_of_cell? _ _ m0)).trans m0, (hB.cell (w := w1.drew) (World.block_lt_of_cell? _ _ m1)).trans m1⟩
    case hMe =>
      intro g w9 hbx hap hB0
      have hB : Below w1.heap.size w1 w9 := Below.trans (b := w1.drew) (below_drewN (Below.refl w1.heap.size w1) 1) hB0
      obtain ⟨low2, k2⟩ := hbx 0 (by omega)
      replace low2 : w1.heap.size ≤ g 0 := low2
      replace k2 : Blk w9 (g 0) 3 (madeCells #[.int .i64 0] (P.n + 1)) := k2
      obtain ⟨low3, k3⟩ := hbx 1 (by omega)
      replace low3 : w1.heap.size ≤ g 1 := low3
      replace k3 : Blk w9 (g 1) 3 (madeCells #[.int .i64 0] (P.n + 1)) := k3
      obtain ⟨low4, k4⟩ := hbx 2 (by omega)
      replace low4 : w1.heap.size ≤ g 2 := low4
      replace k4 : Blk w9 (g 2) 3 (madeCells #[.int .i64 0] (P.n + 1)) := k4
      obtain ⟨low5, k5⟩ := hbx 3 (by omega)
      replace low5 : w1.heap.size ≤ g 3 := low5
      replace k5 : Blk w9 (g 3) 3 (madeCells #[.int .i64 0] (P.n + 2)) := k5
      have ap01 := hap 0 1 (by omega) (by omega) (by omega)
      have ap02 := hap 0 2 (by omega) (by omega) (by omega)
      have ap03 := hap 0 3 (by omega) (by omega) (by omega)
      have ap12 := hap 1 2 (by omega) (by omega) (by omega)
      have ap13 := hap 1 3 (by omega) (by omega) (by omega)
      have ap23 := hap 2 3 (by omega) (by omega) (by omega)
      clear hbx hap hB0
      simp only [putAll, mkN]
      try simp only [Act.put, List.setIfInBounds_toArray, List.set_cons_zero, List.set_cons_succ]
      generalize g 0 = h2 at *
      generalize g 1 = h3 at *
      generalize g 2 = h4 at *
      generalize g 3 = h5 at *
      have c0 := (hB.cell (World.block_lt_of_cell? _ _ m0)).trans m0
      have c1 := (hB.cell (World.block_lt_of_cell? _ _ m1)).trans m1
      refine wpAnyH_take (i := 18) (v := _) rfl (by kernel_rfl) (by kernel_rfl) (by kernel_rfl) (fun _ _ _ h => h) (Or.inl ⟨by rfl, fun w hSw => by go_simp; with_reducible rfl⟩) ⟨c0, c1⟩ ?_
      try simp only [Act.put, List.getElem_toArray, List.getElem_cons_zero, List.getElem_cons_succ, List.setIfInBounds_toArray, List.set_cons_zero, List.set_cons_succ]
      refine wpAnyH_ready (rs := [19]) (by kernel_rfl) (by simp) (AllReadyH.cons rfl (fun K hK => ?_) AllReadyH.nil)
      go_simp
      have hBz := hB.alloc hB.size (.cells #[.slice Ap P.n cp, .slice Aw ws.length cw, .int .i64 D, .slice (some ⟨h2, 0, none⟩) (P.n + 1) (P.n + 1), .slice (some ⟨h3, 0, none⟩) (P.n + 1) (P.n + 1), .slice (some ⟨h4, 0, none⟩) (P.n + 1) (P.n + 1), .slice (some ⟨h5, 0, none⟩) (P.n + 2) (P.n + 2)] 54)
      have bm := Blk.new w9 54 #[.slice Ap P.n cp, .slice Aw ws.length cw, .int .i64 D, .slice (some ⟨h2, 0, none⟩) (P.n + 1) (P.n + 1), .slice (some ⟨h3, 0, none⟩) (P.n + 1) (P.n + 1), .slice (some ⟨h4, 0, none⟩) (P.n + 1) (P.n + 1), .slice (some ⟨h5, 0, none⟩) (P.n + 2) (P.n + 2)]
      refine hK.out _ _ ⟨(hBz.cell (World.block_lt_of_cell? _ _ m0)).trans m0, (hBz.cell (World.block_lt_of_cell? _ _ m1)).trans m1⟩ (fun _ => ?_)
      clear hK K c0 c1
      try simp only [List.setIfInBounds_toArray, List.set_cons_zero, List.set_cons_succ]
      refine wpAnyH_done (by kernel_rfl) ?_ _
      refine sink_run rfl rfl ?_
      go_simp
      go_wp2_with fail
      go_meet
      exact ⟨h2, h3, h4, h5, _, rfl, bm, k2.alloc _, k3.alloc _, k4.alloc _, k5.alloc _, ⟨ap01, ap02, ap03, ap12, ap13, ap23⟩, ⟨low2, low3, low4, low5⟩, hBz⟩
  case rest =>
    obtain ⟨h2, h3, h4, h5, gm, rfl, bm, b2, b3, b4, b5, hne, hlow, hbl1⟩ := hcut
    rw [made_tab] at b2 b3 b4 b5
    obtain ⟨hr1, hw1, hbl⟩ := Hr.out
    have HP : Hid (PS w1 gm h2 h3 h4 h5 P.n #[.slice Ap P.n cp, .slice Aw ws.length cw, .int .i64 D, .slice (some ⟨h2, 0, none⟩) (P.n + 1) (P.n + 1), .slice (some ⟨h3, 0, none⟩) (P.n + 1) (P.n + 1), .slice (some ⟨h4, 0, none⟩) (P.n + 1) (P.n + 1), .slice (some ⟨h5, 0, none⟩) (P.n + 2) (P.n + 2)] (upto (sW P) 0) (upto (sG P) 0) (upto (sY P) 0) (fun _ => 0) wc) := PS.congr (F2 := fun _ => 0) (F3 := fun _ => 0) (F4 := fun _ => 0) (F5 := fun _ => 0) ⟨bm, b2, b3, b4, b5, hne, hlow, hbl1⟩ (fun i _ => upto_zero (f := sW P) rfl i) (fun i _ => upto_zero (f := sG P) rfl i) (fun i _ => upto_zero (f := sY P) rfl i) (fun _ _ => rfl)
    have Hr2 := hide hr1
    clear bm b2 b3 b4 b5 hne hlow hbl1 m0 m1 hr1 hw1 hbl
    go_wp2_with fail
    go_loopw [32] (fun a wr => ∃ k : Nat, k ≤ P.n ∧ a = .int .i64 k ∧ Hid (PS w1 gm h2 h3 h4 h5 P.n #[.slice Ap P.n cp, .slice Aw ws.length cw, .int .i64 D, .slice (some ⟨h2, 0, none⟩) (P.n + 1) (P.n + 1), .slice (some ⟨h3, 0, none⟩) (P.n + 1) (P.n + 1), .slice (some ⟨h4, 0, none⟩) (P.n + 1) (P.n + 1), .slice (some ⟨h5, 0, none⟩) (P.n + 2) (P.n + 2)] (upto (sW P) k) (upto (sG P) k) (upto (sY P) k) (fun _ => 0) wr)) (fun a _ => P.n - (intOf a).toNat)
    case atStart => exact ⟨0, by omega, rfl, HP⟩
    case round =>
      clear HP
      obtain ⟨k, hk, rfl, HP⟩ := hrel
      by_cases hlt : k < P.n
      · obtain ⟨bp, off, rfl, hc⟩ := (Hr2.out.below HP.out.bel).at_ hlt
        have k0 : wr.cell? ⟨bp, off + k * 6, none⟩ = some (.int .i64 (P.kd k)) := hc 0 (by omega)
        have k1 : wr.cell? ⟨bp, off + k * 6 + 1, none⟩ = some (.int .i64 (P.wd k)) := hc 1 (by omega)
        have k2 : wr.cell? ⟨bp, off + k * 6 + 2, none⟩ = some (.int .i64 (P.st k)) := hc 2 (by omega)
        have k3 : wr.cell? ⟨bp, off + k * 6 + 3, none⟩ = some (.int .i64 (P.sh k)) := hc 3 (by omega)
        have k4 : wr.cell? ⟨bp, off + k * 6 + 4, none⟩ = some (.int .i64 (P.co k)) := hc 4 (by omega)
        have k5 : wr.cell? ⟨bp, off + k * 6 + 5, none⟩ = some (.bool (P.fl k)) := hc 5 (by omega)
        clear hc
        go_upto_region 5 with fail
        have hal := (Below.refl wr.heap.size wr).alloc (Nat.le_refl _) (.cells #[.int .i64 (P.kd k), .int .i64 (P.wd k), .int .i64 (P.st k), .int .i64 (P.sh k), .int .i64 (P.co k), .bool (P.fl k)] 39)
        have HP0 := hide (HP.out.below hal)
        have HB0 := hide (Blk.new wr 39 #[.int .i64 (P.kd k), .int .i64 (P.wd k), .int .i64 (P.st k), .int .i64 (P.sh k), .int .i64 (P.co k), .bool (P.fl k)])
        clear HP hal k0 k1 k2 k3 k4 k5
        generalize wr.alloc (.cells #[.int .i64 (P.kd k), .int .i64 (P.wd k), .int .i64 (P.st k), .int .i64 (P.sh k), .int .i64 (P.co k), .bool (P.fl k)] 39) = w0 at *
        generalize wr.heap.size = g7 at *
        have a3 : w0.cell? ⟨gm, 3, none⟩ = some (.slice (some ⟨h2, 0, none⟩) (P.n + 1) (P.n + 1)) := HP0.out.bm.cell 3
        have a4 : w0.cell? ⟨gm, 4, none⟩ = some (.slice (some ⟨h3, 0, none⟩) (P.n + 1) (P.n + 1)) := HP0.out.bm.cell 4
        have a5 : w0.cell? ⟨gm, 5, none⟩ = some (.slice (some ⟨h4, 0, none⟩) (P.n + 1) (P.n + 1)) := HP0.out.bm.cell 5
        have c2 := tab_cell HP0.out.b2 (show k < P.n + 1 by omega)
        have c3 := tab_cell HP0.out.b3 (show k < P.n + 1 by omega)
        have c4 := tab_cell HP0.out.b4 (show k < P.n + 1 by omega)
        rw [upto_at (Nat.le_refl _)] at c2 c3 c4
        have x2 : w0.cell? ⟨g7, 2, none⟩ = some (.int .i64 (P.st k)) := HB0.out.cell 2
        have x3 : w0.cell? ⟨g7, 3, none⟩ = some (.int .i64 (P.sh k)) := HB0.out.cell 3
        have s1 := sW_bd Hv.out k hk
        have s2 := sG_bd Hv.out k hk
        have s3 := sY_bd Hv.out k hk
        have s4 := Hv.out.str k hlt
        have s5 := Hv.out.shr k hlt
        have s6 := Hv.out.wide k hlt
        have q1 : IntKind.i64.wrap ((k : Int) + 1) = (k : Int) + 1 := IntWalk.i64_in _ (by omega)
        have q2 : IntKind.i64.wrap (sG P k + P.st k) = sG P k + P.st k := IntWalk.i64_in _ (by omega)
        have q3 : IntKind.i64.wrap (sY P k + P.sh k) = sY P k + P.sh k := IntWalk.i64_in _ (by omega)
        have i1 : (k : Int) + 1 < (P.n : Int) + 1 := by omega
        have i2 : (k : Int) < (P.n : Int) + 1 := by omega
        have i3 : 0 ≤ (k : Int) + 1 := by omega
        have i4 : ((k : Int) + 1).toNat = k + 1 := by omega
        go_cut [] (fun wc => PS w1 gm h2 h3 h4 h5 P.n #[.slice (some ⟨bp, off, none⟩) P.n cp, .slice Aw ws.length cw, .int .i64 D, .slice (some ⟨h2, 0, none⟩) (P.n + 1) (P.n + 1), .slice (some ⟨h3, 0, none⟩) (P.n + 1) (P.n + 1), .slice (some ⟨h4, 0, none⟩) (P.n + 1) (P.n + 1), .slice (some ⟨h5, 0, none⟩) (P.n + 2) (P.n + 2)] (upd (upto (sW P) k) (k + 1) (sW P k)) (upto (sG P) (k + 1)) (upto (sY P) (k + 1)) (fun _ => 0) wc ∧ Blk wc g7 39 #[.int .i64 (P.kd k), .int .i64 (P.wd k), .int .i64 (P.st k), .int .i64 (P.sh k), .int .i64 (P.co k), .bool (P.fl k)])
        case first => as_aux_lemma =>
          refine wp_region_sink (S := fun w' : World => (w'.cell? ⟨gm, 3, none⟩ = some (.slice (some ⟨h2, 0, none⟩) (P.n + 1) (P.n + 1)) ∧ w'.cell? ⟨gm, 4, none⟩ = some (.slice (some ⟨h3, 0, none⟩) (P.n + 1) (P.n + 1)) ∧ w'.cell? ⟨gm, 5, none⟩ = some (.slice (some ⟨h4, 0, none⟩) (P.n + 1) (P.n + 1))) ∧ (w'.cell? ⟨h2, k, none⟩ = some (.int .i64 (sW P k)) ∧ w'.cell? ⟨h3, k, none⟩ = some (.int .i64 (sG P k)) ∧ w'.cell? ⟨h4, k, none⟩ = some (.int .i64 (sY P k))) ∧ (w'.cell? ⟨g7, 2, none⟩ = some (.int .i64 (P.st k)) ∧ w'.cell? ⟨g7, 3, none⟩ = some (.int .i64 (P.sh k)))) 50 (by kernel_rfl) (by kernel_rfl) (by kernel_rfl) (by kernel_rfl) ?hS5 (fun hHeld => ?_)
          case hS5 => exact ⟨⟨a3, a4, a5⟩, ⟨c2, c3, c4⟩, ⟨x2, x3⟩⟩
          simp only [List.take_succ_cons, List.take_zero]
          refine wpAnyH_take (i := 0) (v := ?v5n0) rfl (by kernel_rfl) (by kernel_rfl) (by kernel_rfl) (fun _ _ _ h => h) (Or.inl ⟨by rfl, ?hy5n0⟩) (by assumption) ?_
          case hy5n0 => (intro w hSw; (try dsimp only at hSw); go_simp; try with_reducible rfl)
          try simp only [Act.put, List.getElem_toArray, List.getElem_cons_zero, List.setIfInBounds_toArray, List.set_cons_zero, List.set_cons_succ]
          refine wpAnyH_take (i := 1) (v := ?v5n1) rfl (by kernel_rfl) (by kernel_rfl) (by kernel_rfl) (fun _ _ _ h => h) (Or.inl ⟨by rfl, ?hy5n1⟩) (by assumption) ?_
          case hy5n1 => (intro w hSw; (try dsimp only at hSw); go_simp; try with_reducible rfl)
          try simp only [Act.put, List.getElem_toArray, List.getElem_cons_zero, List.getElem_cons_succ, List.setIfInBounds_toArray, List.set_cons_zero, List.set_cons_succ]
          refine wpAnyH_take (i := 2) (v := ?v5n2) rfl (by kernel_rfl) (by kernel_rfl) (by kernel_rfl) (fun _ _ _ h => h) (Or.inl ⟨by rfl, ?hy5n2⟩) (by assumption) ?_
          case hy5n2 => (intro w hSw; (try dsimp only at hSw); go_simp; try with_reducible rfl)
          try simp only [Act.put, List.getElem_toArray, List.getElem_cons_zero, List.getElem_cons_succ, List.setIfInBounds_toArray, List.set_cons_zero, List.set_cons_succ]
          refine wpAnyH_take (i := 3) (v := ?v5n3) rfl (by kernel_rfl) (by kernel_rfl) (by kernel_rfl) (fun _ _ _ h => h) (Or.inl ⟨by rfl, ?hy5n3⟩) (by assumption) ?_
          case hy5n3 => (intro w hSw; (try dsimp only at hSw); go_simp; try with_reducible rfl)
          try simp only [Act.put, List.getElem_toArray, List.getElem_cons_zero, List.getElem_cons_succ, List.setIfInBounds_toArray, List.set_cons_zero, List.set_cons_succ]
          refine wpAnyH_take (i := 4) (v := ?v5n4) rfl (by kernel_rfl) (by kernel_rfl) (by kernel_rfl) (fun _ _ _ h => h) (Or.inl ⟨by rfl, ?hy5n4⟩) (by assumption) ?_
          case hy5n4 => (intro w hSw; (try dsimp only at hSw); go_simp; try with_reducible rfl)
          try simp only [Act.put, List.getElem_toArray, List.getElem_cons_zero, List.getElem_cons_succ, List.setIfInBounds_toArray, List.set_cons_zero, List.set_cons_succ]
          refine wpAnyH_take (i := 5) (v := ?v5n5) rfl (by kernel_rfl) (by kernel_rfl) (by kernel_rfl) (fun _ _ _ h => h) (Or.inl ⟨by rfl, ?hy5n5⟩) (by assumption) ?_
          case hy5n5 => (intro w hSw; (try dsimp only at hSw); go_simp; try with_reducible rfl)
          try simp only [Act.put, List.getElem_toArray, List.getElem_cons_zero, List.getElem_cons_succ, List.setIfInBounds_toArray, List.set_cons_zero, List.set_cons_succ]
          refine wpAnyH_take (i := 6) (v := ?v5n6) rfl (by kernel_rfl) (by kernel_rfl) (by kernel_rfl) (fun _ _ _ h => h) (Or.inl ⟨by rfl, ?hy5n6⟩) (by assumption) ?_
          case hy5n6 => (intro w hSw; (try dsimp only at hSw); go_simp; try with_reducible rfl)
          try simp only [Act.put, List.getElem_toArray, List.getElem_cons_zero, List.getElem_cons_succ, List.setIfInBounds_toArray, List.set_cons_zero, List.set_cons_succ]
          refine wpAnyH_take (i := 7) (v := ?v5n7) rfl (by kernel_rfl) (by kernel_rfl) (by kernel_rfl) (fun _ _ _ h => h) (Or.inl ⟨by rfl, ?hy5n7⟩) (by assumption) ?_
          case hy5n7 => (intro w hSw; (try dsimp only at hSw); go_simp; try with_reducible rfl)
          try simp only [Act.put, List.getElem_toArray, List.getElem_cons_zero, List.getElem_cons_succ, List.setIfInBounds_toArray, List.set_cons_zero, List.set_cons_succ]
          refine wpAnyH_take (i := 8) (v := ?v5n8) rfl (by kernel_rfl) (by kernel_rfl) (by kernel_rfl) (fun _ _ _ h => h) (Or.inl ⟨by rfl, ?hy5n8⟩) (by assumption) ?_
          case hy5n8 => (intro w hSw; (try dsimp only at hSw); go_simp; try with_reducible rfl)
          try simp only [Act.put, List.getElem_toArray, List.getElem_cons_zero, List.getElem_cons_succ, List.setIfInBounds_toArray, List.set_cons_zero, List.set_cons_succ]
          refine wpAnyH_take (i := 9) (v := ?v5n9) rfl (by kernel_rfl) (by kernel_rfl) (by kernel_rfl) (fun _ _ _ h => h) (Or.inl ⟨by rfl, ?hy5n9⟩) (by assumption) ?_
          case hy5n9 => (intro w hSw; (try dsimp only at hSw); go_simp; try with_reducible rfl)
          try simp only [Act.put, List.getElem_toArray, List.getElem_cons_zero, List.getElem_cons_succ, List.setIfInBounds_toArray, List.set_cons_zero, List.set_cons_succ]
          refine wpAnyH_take (i := 10) (v := ?v5n10) rfl (by kernel_rfl) (by kernel_rfl) (by kernel_rfl) (fun _ _ _ h => h) (Or.inl ⟨by rfl, ?hy5n10⟩) (by assumption) ?_
          case hy5n10 => (intro w hSw; (try dsimp only at hSw); go_simp; try with_reducible rfl)
          try simp only [Act.put, List.getElem_toArray, List.getElem_cons_zero, List.getElem_cons_succ, List.setIfInBounds_toArray, List.set_cons_zero, List.set_cons_succ]
          refine wpAnyH_take (i := 11) (v := ?v5n11) rfl (by kernel_rfl) (by kernel_rfl) (by kernel_rfl) (fun _ _ _ h => h) (Or.inl ⟨by rfl, ?hy5n11⟩) (by assumption) ?_
          case hy5n11 => (intro w hSw; (try dsimp only at hSw); go_simp; try with_reducible rfl)
          try simp only [Act.put, List.getElem_toArray, List.getElem_cons_zero, List.getElem_cons_succ, List.setIfInBounds_toArray, List.set_cons_zero, List.set_cons_succ]
          refine wpAnyH_take (i := 12) (v := ?v5n12) rfl (by kernel_rfl) (by kernel_rfl) (by kernel_rfl) (fun _ _ _ h => h) (Or.inl ⟨by rfl, ?hy5n12⟩) (by assumption) ?_
          case hy5n12 => (intro w hSw; (try dsimp only at hSw); go_simp; try with_reducible rfl)
          try simp only [Act.put, List.getElem_toArray, List.getElem_cons_zero, List.getElem_cons_succ, List.setIfInBounds_toArray, List.set_cons_zero, List.set_cons_succ]
          refine wpAnyH_take (i := 13) (v := ?v5n13) rfl (by kernel_rfl) (by kernel_rfl) (by kernel_rfl) (fun _ _ _ h => h) (Or.inl ⟨by rfl, ?hy5n13⟩) (by assumption) ?_
          case hy5n13 => (intro w hSw; (try dsimp only at hSw); go_simp; try with_reducible rfl)
          try simp only [Act.put, List.getElem_toArray, List.getElem_cons_zero, List.getElem_cons_succ, List.setIfInBounds_toArray, List.set_cons_zero, List.set_cons_succ]
          refine wpAnyH_take (i := 14) (v := ?v5n14) rfl (by kernel_rfl) (by kernel_rfl) (by kernel_rfl) (fun _ _ _ h => h) (Or.inl ⟨by rfl, ?hy5n14⟩) (by assumption) ?_
          case hy5n14 => (intro w hSw; (try dsimp only at hSw); go_simp; try with_reducible rfl)
          try simp only [Act.put, List.getElem_toArray, List.getElem_cons_zero, List.getElem_cons_succ, List.setIfInBounds_toArray, List.set_cons_zero, List.set_cons_succ]
          refine wpAnyH_take (i := 15) (v := ?v5n15) rfl (by kernel_rfl) (by kernel_rfl) (by kernel_rfl) (fun _ _ _ h => h) (Or.inl ⟨by rfl, ?hy5n15⟩) (by assumption) ?_
          case hy5n15 => (intro w hSw; (try dsimp only at hSw); go_simp; try with_reducible rfl)
          try simp only [Act.put, List.getElem_toArray, List.getElem_cons_zero, List.getElem_cons_succ, List.setIfInBounds_toArray, List.set_cons_zero, List.set_cons_succ]
          refine wpAnyH_take (i := 16) (v := ?v5n16) rfl (by kernel_rfl) (by kernel_rfl) (by kernel_rfl) (fun _ _ _ h => h) (Or.inl ⟨by rfl, ?hy5n16⟩) (by assumption) ?_
          case hy5n16 => (intro w hSw; (try dsimp only at hSw); go_simp; try with_reducible rfl)
          try simp only [Act.put, List.getElem_toArray, List.getElem_cons_zero, List.getElem_cons_succ, List.setIfInBounds_toArray, List.set_cons_zero, List.set_cons_succ]
          refine wpAnyH_take (i := 17) (v := ?v5n17) rfl (by kernel_rfl) (by kernel_rfl) (by kernel_rfl) (fun _ _ _ h => h) (Or.inl ⟨by rfl, ?hy5n17⟩) (by assumption) ?_
          case hy5n17 => (intro w hSw; (try dsimp only at hSw); go_simp; try with_reducible rfl)
          try simp only [Act.put, List.getElem_toArray, List.getElem_cons_zero, List.getElem_cons_succ, List.setIfInBounds_toArray, List.set_cons_zero, List.set_cons_succ]
          refine wpAnyH_take (i := 18) (v := ?v5n18) rfl (by kernel_rfl) (by kernel_rfl) (by kernel_rfl) (fun _ _ _ h => h) (Or.inl ⟨by rfl, ?hy5n18⟩) (by assumption) ?_
          case hy5n18 => (intro w hSw; (try dsimp only at hSw); go_simp; try with_reducible rfl)
          try simp only [Act.put, List.getElem_toArray, List.getElem_cons_zero, List.getElem_cons_succ, List.setIfInBounds_toArray, List.set_cons_zero, List.set_cons_succ]
          refine wpAnyH_take (i := 19) (v := ?v5n19) rfl (by kernel_rfl) (by kernel_rfl) (by kernel_rfl) (fun _ _ _ h => h) (Or.inl ⟨by rfl, ?hy5n19⟩) (by assumption) ?_
          case hy5n19 => (intro w hSw; (try dsimp only at hSw); go_simp; try with_reducible rfl)
          try simp only [Act.put, List.getElem_toArray, List.getElem_cons_zero, List.getElem_cons_succ, List.setIfInBounds_toArray, List.set_cons_zero, List.set_cons_succ]
          refine wpAnyH_take (i := 20) (v := ?v5n20) rfl (by kernel_rfl) (by kernel_rfl) (by kernel_rfl) (fun _ _ _ h => h) (Or.inl ⟨by rfl, ?hy5n20⟩) (by assumption) ?_
          case hy5n20 => (intro w hSw; (try dsimp only at hSw); go_simp; try with_reducible rfl)
          try simp only [Act.put, List.getElem_toArray, List.getElem_cons_zero, List.getElem_cons_succ, List.setIfInBounds_toArray, List.set_cons_zero, List.set_cons_succ]
          refine wpAnyH_take (i := 21) (v := ?v5n21) rfl (by kernel_rfl) (by kernel_rfl) (by kernel_rfl) (fun _ _ _ h => h) (Or.inl ⟨by rfl, ?hy5n21⟩) (by assumption) ?_
          case hy5n21 => (intro w hSw; (try dsimp only at hSw); go_simp; try with_reducible rfl)
          try simp only [Act.put, List.getElem_toArray, List.getElem_cons_zero, List.getElem_cons_succ, List.setIfInBounds_toArray, List.set_cons_zero, List.set_cons_succ]
          refine wpAnyH_take (i := 22) (v := ?v5n22) rfl (by kernel_rfl) (by kernel_rfl) (by kernel_rfl) (fun _ _ _ h => h) (Or.inl ⟨by rfl, ?hy5n22⟩) (by assumption) ?_
          case hy5n22 => (intro w hSw; (try dsimp only at hSw); go_simp; try with_reducible rfl)
          try simp only [Act.put, List.getElem_toArray, List.getElem_cons_zero, List.getElem_cons_succ, List.setIfInBounds_toArray, List.set_cons_zero, List.set_cons_succ]
          refine wpAnyH_take (i := 23) (v := ?v5n23) rfl (by kernel_rfl) (by kernel_rfl) (by kernel_rfl) (fun _ _ _ h => h) (Or.inl ⟨by rfl, ?hy5n23⟩) (by assumption) ?_
          case hy5n23 => (intro w hSw; (try dsimp only at hSw); go_simp; try with_reducible rfl)
          try simp only [Act.put, List.getElem_toArray, List.getElem_cons_zero, List.getElem_cons_succ, List.setIfInBounds_toArray, List.set_cons_zero, List.set_cons_succ]
          refine wpAnyH_take (i := 24) (v := ?v5n24) rfl (by kernel_rfl) (by kernel_rfl) (by kernel_rfl) (fun _ _ _ h => h) (Or.inl ⟨by rfl, ?hy5n24⟩) (by assumption) ?_
          case hy5n24 => (intro w hSw; (try dsimp only at hSw); go_simp; try with_reducible rfl)
          try simp only [Act.put, List.getElem_toArray, List.getElem_cons_zero, List.getElem_cons_succ, List.setIfInBounds_toArray, List.set_cons_zero, List.set_cons_succ]
          refine wpAnyH_take (i := 25) (v := ?v5n25) rfl (by kernel_rfl) (by kernel_rfl) (by kernel_rfl) (fun _ _ _ h => h) (Or.inl ⟨by rfl, ?hy5n25⟩) (by assumption) ?_
          case hy5n25 => (intro w hSw; (try dsimp only at hSw); go_simp; try with_reducible rfl)
          try simp only [Act.put, List.getElem_toArray, List.getElem_cons_zero, List.getElem_cons_succ, List.setIfInBounds_toArray, List.set_cons_zero, List.set_cons_succ]
          refine wpAnyH_take (i := 26) (v := ?v5n26) rfl (by kernel_rfl) (by kernel_rfl) (by kernel_rfl) (fun _ _ _ h => h) (Or.inl ⟨by rfl, ?hy5n26⟩) (by assumption) ?_
          case hy5n26 => (intro w hSw; (try dsimp only at hSw); go_simp; try with_reducible rfl)
          try simp only [Act.put, List.getElem_toArray, List.getElem_cons_zero, List.getElem_cons_succ, List.setIfInBounds_toArray, List.set_cons_zero, List.set_cons_succ]
          refine wpAnyH_take (i := 27) (v := ?v5n27) rfl (by kernel_rfl) (by kernel_rfl) (by kernel_rfl) (fun _ _ _ h => h) (Or.inl ⟨by rfl, ?hy5n27⟩) (by assumption) ?_
          case hy5n27 => (intro w hSw; (try dsimp only at hSw); go_simp; try with_reducible rfl)
          try simp only [Act.put, List.getElem_toArray, List.getElem_cons_zero, List.getElem_cons_succ, List.setIfInBounds_toArray, List.set_cons_zero, List.set_cons_succ]
          refine wpAnyH_take (i := 28) (v := ?v5n28) rfl (by kernel_rfl) (by kernel_rfl) (by kernel_rfl) (fun _ _ _ h => h) (Or.inl ⟨by rfl, ?hy5n28⟩) (by assumption) ?_
          case hy5n28 => (intro w hSw; (try dsimp only at hSw); go_simp; try with_reducible rfl)
          try simp only [Act.put, List.getElem_toArray, List.getElem_cons_zero, List.getElem_cons_succ, List.setIfInBounds_toArray, List.set_cons_zero, List.set_cons_succ]
          refine wpAnyH_take (i := 29) (v := ?v5n29) rfl (by kernel_rfl) (by kernel_rfl) (by kernel_rfl) (fun _ _ _ h => h) (Or.inl ⟨by rfl, ?hy5n29⟩) (by assumption) ?_
          case hy5n29 => (intro w hSw; (try dsimp only at hSw); go_simp; try with_reducible rfl)
          try simp only [Act.put, List.getElem_toArray, List.getElem_cons_zero, List.getElem_cons_succ, List.setIfInBounds_toArray, List.set_cons_zero, List.set_cons_succ]
          refine wpAnyH_take (i := 30) (v := ?v5n30) rfl (by kernel_rfl) (by kernel_rfl) (by kernel_rfl) (fun _ _ _ h => h) (Or.inl ⟨by rfl, ?hy5n30⟩) (by assumption) ?_
          case hy5n30 => (intro w hSw; (try dsimp only at hSw); go_simp; try with_reducible rfl)
          try simp only [Act.put, List.getElem_toArray, List.getElem_cons_zero, List.getElem_cons_succ, List.setIfInBounds_toArray, List.set_cons_zero, List.set_cons_succ]
          refine wpAnyH_take (i := 31) (v := ?v5n31) rfl (by kernel_rfl) (by kernel_rfl) (by kernel_rfl) (fun _ _ _ h => h) (Or.inl ⟨by rfl, ?hy5n31⟩) (by assumption) ?_
          case hy5n31 => (intro w hSw; (try dsimp only at hSw); go_simp; try with_reducible rfl)
          try simp only [Act.put, List.getElem_toArray, List.getElem_cons_zero, List.getElem_cons_succ, List.setIfInBounds_toArray, List.set_cons_zero, List.set_cons_succ]
          refine wpAnyH_take (i := 32) (v := ?v5n32) rfl (by kernel_rfl) (by kernel_rfl) (by kernel_rfl) (fun _ _ _ h => h) (Or.inl ⟨by rfl, ?hy5n32⟩) (by assumption) ?_
          case hy5n32 => (intro w hSw; (try dsimp only at hSw); go_simp; try with_reducible rfl)
          try simp only [Act.put, List.getElem_toArray, List.getElem_cons_zero, List.getElem_cons_succ, List.setIfInBounds_toArray, List.set_cons_zero, List.set_cons_succ]
          refine wpAnyH_take (i := 33) (v := ?v5n33) rfl (by kernel_rfl) (by kernel_rfl) (by kernel_rfl) (fun _ _ _ h => h) (Or.inl ⟨by rfl, ?hy5n33⟩) (by assumption) ?_
          case hy5n33 => (intro w hSw; (try dsimp only at hSw); go_simp; try with_reducible rfl)
          try simp only [Act.put, List.getElem_toArray, List.getElem_cons_zero, List.getElem_cons_succ, List.setIfInBounds_toArray, List.set_cons_zero, List.set_cons_succ]
          refine wpAnyH_take (i := 34) (v := ?v5n34) rfl (by kernel_rfl) (by kernel_rfl) (by kernel_rfl) (fun _ _ _ h => h) (Or.inl ⟨by rfl, ?hy5n34⟩) (by assumption) ?_
          case hy5n34 => (intro w hSw; (try dsimp only at hSw); go_simp; try with_reducible rfl)
          try simp only [Act.put, List.getElem_toArray, List.getElem_cons_zero, List.getElem_cons_succ, List.setIfInBounds_toArray, List.set_cons_zero, List.set_cons_succ]
          refine wpAnyH_take (i := 35) (v := ?v5n35) rfl (by kernel_rfl) (by kernel_rfl) (by kernel_rfl) (fun _ _ _ h => h) (Or.inl ⟨by rfl, ?hy5n35⟩) (by assumption) ?_
          case hy5n35 => (intro w hSw; (try dsimp only at hSw); go_simp; try with_reducible rfl)
          try simp only [Act.put, List.getElem_toArray, List.getElem_cons_zero, List.getElem_cons_succ, List.setIfInBounds_toArray, List.set_cons_zero, List.set_cons_succ]
          refine wpAnyH_take (i := 36) (v := ?v5n36) rfl (by kernel_rfl) (by kernel_rfl) (by kernel_rfl) (fun _ _ _ h => h) (Or.inl ⟨by rfl, ?hy5n36⟩) (by assumption) ?_
          case hy5n36 => (intro w hSw; (try dsimp only at hSw); go_simp; try with_reducible rfl)
          try simp only [Act.put, List.getElem_toArray, List.getElem_cons_zero, List.getElem_cons_succ, List.setIfInBounds_toArray, List.set_cons_zero, List.set_cons_succ]
          refine wpAnyH_take (i := 37) (v := ?v5n37) rfl (by kernel_rfl) (by kernel_rfl) (by kernel_rfl) (fun _ _ _ h => h) (Or.inl ⟨by rfl, ?hy5n37⟩) (by assumption) ?_
          case hy5n37 => (intro w hSw; (try dsimp only at hSw); go_simp; try with_reducible rfl)
          try simp only [Act.put, List.getElem_toArray, List.getElem_cons_zero, List.getElem_cons_succ, List.setIfInBounds_toArray, List.set_cons_zero, List.set_cons_succ]
          refine wpAnyH_take (i := 38) (v := ?v5n38) rfl (by kernel_rfl) (by kernel_rfl) (by kernel_rfl) (fun _ _ _ h => h) (Or.inl ⟨by rfl, ?hy5n38⟩) (by assumption) ?_
          case hy5n38 => (intro w hSw; (try dsimp only at hSw); go_simp; try with_reducible rfl)
          try simp only [Act.put, List.getElem_toArray, List.getElem_cons_zero, List.getElem_cons_succ, List.setIfInBounds_toArray, List.set_cons_zero, List.set_cons_succ]
          refine wpAnyH_take (i := 39) (v := ?v5n39) rfl (by kernel_rfl) (by kernel_rfl) (by kernel_rfl) (fun _ _ _ h => h) (Or.inl ⟨by rfl, ?hy5n39⟩) (by assumption) ?_
          case hy5n39 => (intro w hSw; (try dsimp only at hSw); go_simp; try with_reducible rfl)
          try simp only [Act.put, List.getElem_toArray, List.getElem_cons_zero, List.getElem_cons_succ, List.setIfInBounds_toArray, List.set_cons_zero, List.set_cons_succ]
          refine wpAnyH_take (i := 40) (v := ?v5n40) rfl (by kernel_rfl) (by kernel_rfl) (by kernel_rfl) (fun _ _ _ h => h) (Or.inl ⟨by rfl, ?hy5n40⟩) (by assumption) ?_
          case hy5n40 => (intro w hSw; (try dsimp only at hSw); go_simp; try with_reducible rfl)
          try simp only [Act.put, List.getElem_toArray, List.getElem_cons_zero, List.getElem_cons_succ, List.setIfInBounds_toArray, List.set_cons_zero, List.set_cons_succ]
          refine wpAnyH_take (i := 41) (v := ?v5n41) rfl (by kernel_rfl) (by kernel_rfl) (by kernel_rfl) (fun _ _ _ h => h) (Or.inl ⟨by rfl, ?hy5n41⟩) (by assumption) ?_
          case hy5n41 => (intro w hSw; (try dsimp only at hSw); go_simp; try with_reducible rfl)
          try simp only [Act.put, List.getElem_toArray, List.getElem_cons_zero, List.getElem_cons_succ, List.setIfInBounds_toArray, List.set_cons_zero, List.set_cons_succ]
          refine wpAnyH_take (i := 42) (v := ?v5n42) rfl (by kernel_rfl) (by kernel_rfl) (by kernel_rfl) (fun _ _ _ h => h) (Or.inl ⟨by rfl, ?hy5n42⟩) (by assumption) ?_
          case hy5n42 => (intro w hSw; (try dsimp only at hSw); go_simp; try with_reducible rfl)
          try simp only [Act.put, List.getElem_toArray, List.getElem_cons_zero, List.getElem_cons_succ, List.setIfInBounds_toArray, List.set_cons_zero, List.set_cons_succ]
          refine wpAnyH_take (i := 43) (v := ?v5n43) rfl (by kernel_rfl) (by kernel_rfl) (by kernel_rfl) (fun _ _ _ h => h) (Or.inl ⟨by rfl, ?hy5n43⟩) (by assumption) ?_
          case hy5n43 => (intro w hSw; (try dsimp only at hSw); go_simp; try with_reducible rfl)
          try simp only [Act.put, List.getElem_toArray, List.getElem_cons_zero, List.getElem_cons_succ, List.setIfInBounds_toArray, List.set_cons_zero, List.set_cons_succ]
          refine wpAnyH_take (i := 44) (v := ?v5n44) rfl (by kernel_rfl) (by kernel_rfl) (by kernel_rfl) (fun _ _ _ h => h) (Or.inl ⟨by rfl, ?hy5n44⟩) (by assumption) ?_
          case hy5n44 => (intro w hSw; (try dsimp only at hSw); go_simp; try with_reducible rfl)
          try simp only [Act.put, List.getElem_toArray, List.getElem_cons_zero, List.getElem_cons_succ, List.setIfInBounds_toArray, List.set_cons_zero, List.set_cons_succ]
          refine wpAnyH_take (i := 45) (v := ?v5n45) rfl (by kernel_rfl) (by kernel_rfl) (by kernel_rfl) (fun _ _ _ h => h) (Or.inl ⟨by rfl, ?hy5n45⟩) (by assumption) ?_
          case hy5n45 => (intro w hSw; (try dsimp only at hSw); go_simp; try with_reducible rfl)
          try simp only [Act.put, List.getElem_toArray, List.getElem_cons_zero, List.getElem_cons_succ, List.setIfInBounds_toArray, List.set_cons_zero, List.set_cons_succ]
          clear hHeld
          have e2 := tab_cell HP0.out.b2 (show k + 1 < P.n + 1 by omega)
          have z2 := HP0.out.b2.frozen (k + 1)
          refine wpAnyH_ready (rs := [46]) (by kernel_rfl) (by simp) (AllReadyH.cons rfl (fun K hK => ?_) AllReadyH.nil)
          go_simp
          have P1 : PS w1 gm h2 h3 h4 h5 P.n #[.slice (some ⟨bp, off, none⟩) P.n cp, .slice Aw ws.length cw, .int .i64 D, .slice (some ⟨h2, 0, none⟩) (P.n + 1) (P.n + 1), .slice (some ⟨h3, 0, none⟩) (P.n + 1) (P.n + 1), .slice (some ⟨h4, 0, none⟩) (P.n + 1) (P.n + 1), .slice (some ⟨h5, 0, none⟩) (P.n + 2) (P.n + 2)] (upd (upto (sW P) k) (k + 1) (sW P k)) (upto (sG P) k) (upto (sY P) k) (fun _ => 0) (w0.setCell ⟨h2, k + 1, none⟩ (.int .i64 (sW P k))).drew := (HP0.out.set2 (k + 1) (sW P k)).drewN 1
          have B1 : Blk ((w0.setCell ⟨h2, k + 1, none⟩ (.int .i64 (sW P k))).drew) g7 39 #[.int .i64 (P.kd k), .int .i64 (P.wd k), .int .i64 (P.st k), .int .i64 (P.sh k), .int .i64 (P.co k), .bool (P.fl k)] := (HB0.out.far (p := ⟨h2, k + 1, none⟩) (blk_ne_type HB0.out HP0.out.b2 (by decide)) (.int .i64 (sW P k))).drewN 1
          have v2 := tab_cell P1.b2 (show k < P.n + 1 by omega)
          have v3 := tab_cell P1.b3 (show k < P.n + 1 by omega)
          have v4 := tab_cell P1.b4 (show k < P.n + 1 by omega)
          rw [upd_other _ _ (by omega), upto_at (Nat.le_refl _)] at v2
          rw [upto_at (Nat.le_refl _)] at v3 v4
          refine hK.out _ _ ⟨⟨P1.bm.cell 3, P1.bm.cell 4, P1.bm.cell 5⟩, ⟨v2, v3, v4⟩, ⟨B1.cell 2, B1.cell 3⟩⟩ (fun hHeld => ?_)
          clear hK K v2 v3 v4 e2 z2
          try simp only [Act.put, List.getElem_toArray, List.getElem_cons_zero, List.getElem_cons_succ, List.setIfInBounds_toArray, List.set_cons_zero, List.set_cons_succ]
          clear a3 a4 a5 c2 c3 c4 x2 x3
          generalize (w0.setCell ⟨h2, k + 1, none⟩ (.int .i64 (sW P k))).drew = wz1 at *
          refine wpAnyH_take (i := 47) (v := ?v5n47) rfl (by kernel_rfl) (by kernel_rfl) (by kernel_rfl) (fun _ _ _ h => h) (Or.inl ⟨by rfl, ?hy5n47⟩) (by assumption) ?_
          case hy5n47 => (intro w hSw; (try dsimp only at hSw); go_simp; try with_reducible rfl)
          try simp only [Act.put, List.getElem_toArray, List.getElem_cons_zero, List.getElem_cons_succ, List.setIfInBounds_toArray, List.set_cons_zero, List.set_cons_succ]
          clear hHeld
          have e3 := tab_cell P1.b3 (show k + 1 < P.n + 1 by omega)
          have z3 := P1.b3.frozen (k + 1)
          refine wpAnyH_ready (rs := [48]) (by kernel_rfl) (by simp) (AllReadyH.cons rfl (fun K hK => ?_) AllReadyH.nil)
          go_simp
          have P2 := P1.set3 (k + 1) (sG P k + P.st k)
          have B2 := B1.far (p := ⟨h3, k + 1, none⟩) (blk_ne_type HB0.out HP0.out.b3 (by decide)) (.int .i64 (sG P k + P.st k))
          have v2 := tab_cell P2.b2 (show k < P.n + 1 by omega)
          have v3 := tab_cell P2.b3 (show k < P.n + 1 by omega)
          have v4 := tab_cell P2.b4 (show k < P.n + 1 by omega)
          rw [upd_other _ _ (by omega), upto_at (Nat.le_refl _)] at v2 v3
          rw [upto_at (Nat.le_refl _)] at v4
          refine hK.out _ _ ⟨⟨P2.bm.cell 3, P2.bm.cell 4, P2.bm.cell 5⟩, ⟨v2, v3, v4⟩, ⟨B2.cell 2, B2.cell 3⟩⟩ (fun hHeld => ?_)
          clear hK K v2 v3 v4 e3 z3
          try simp only [Act.put, List.getElem_toArray, List.getElem_cons_zero, List.getElem_cons_succ, List.setIfInBounds_toArray, List.set_cons_zero, List.set_cons_succ]
          generalize wz1.setCell ⟨h3, k + 1, none⟩ (.int .i64 (sG P k + P.st k)) = wz2 at *
          refine wpAnyH_take (i := 49) (v := ?v5n49) rfl (by kernel_rfl) (by kernel_rfl) (by kernel_rfl) (fun _ _ _ h => h) (Or.inl ⟨by rfl, ?hy5n49⟩) (by assumption) ?_
          case hy5n49 => (intro w hSw; (try dsimp only at hSw); go_simp; try with_reducible rfl)
          try simp only [Act.put, List.getElem_toArray, List.getElem_cons_zero, List.getElem_cons_succ, List.setIfInBounds_toArray, List.set_cons_zero, List.set_cons_succ]
          clear hHeld
          refine wpAnyH_done (by kernel_rfl) ?_ _
          have e4 := tab_cell P2.b4 (show k + 1 < P.n + 1 by omega)
          have z4 := P2.b4.frozen (k + 1)
          refine sink_run rfl rfl ?_
          go_simp
          go_wp2_with fail
          go_meet
          exact ⟨(P2.set4 (k + 1) (sY P k + P.sh k)).congr (fun _ _ => rfl) (fun i _ => upto_next (f := sG P)) (fun i _ => upto_next (f := sY P)) (fun _ _ => rfl), B2.far (p := ⟨h4, k + 1, none⟩) (blk_ne_type HB0.out HP0.out.b4 (by decide)) _⟩
        case rest =>
          obtain ⟨HPq, HBq⟩ := hcut
          clear a3 a4 a5 c2 c3 c4 x2 x3 q2 q3 HP0 HB0
          have y0 : wc.cell? ⟨g7, 0, none⟩ = some (.int .i64 (P.kd k)) := HBq.cell 0
          have y1 : wc.cell? ⟨g7, 1, none⟩ = some (.int .i64 (P.wd k)) := HBq.cell 1
          have a3 : wc.cell? ⟨gm, 3, none⟩ = some (.slice (some ⟨h2, 0, none⟩) (P.n + 1) (P.n + 1)) := HPq.bm.cell 3
          have c2 := tab_cell HPq.b2 (show k + 1 < P.n + 1 by omega)
          rw [upd_same] at c2
          have z2 := HPq.b2.frozen (k + 1)
          have HPh := hide HPq
          clear HPq HBq
          have q4 : IntKind.i64.wrap (sW P k + P.wd k) = sW P k + P.wd k := IntWalk.i64_in _ (by omega)
          by_cases h2k : P.kd k = 2
          · have d1 : (P.kd k != 2) = false := by simpa using h2k
            have e1 := hide (show sW P (k + 1) = sW P k by show sW P k + (if P.kd k = 2 then 0 else P.wd k) = _; rw [if_pos h2k, Int.add_zero])
            clear h2k
            go_wp2_with fail
            exact ⟨⟨k + 1, by omega, by simp, hide (HPh.out.congr (fun i _ => by rw [← upto_next (f := sW P), e1.out]) (fun _ _ => rfl) (fun _ _ => rfl) (fun _ _ => rfl))⟩, by simp only [intOf]; omega⟩
          · have d1 : (P.kd k != 2) = true := by simpa using h2k
            have e1 := hide (show sW P (k + 1) = sW P k + P.wd k by show sW P k + (if P.kd k = 2 then 0 else P.wd k) = _; rw [if_neg h2k])
            clear h2k
            go_upto_region 7 with fail
            refine wp_region_sink (S := fun w' : World => w'.cell? ⟨gm, 3, none⟩ = some (.slice (some ⟨h2, 0, none⟩) (P.n + 1) (P.n + 1)) ∧ w'.cell? ⟨h2, k + 1, none⟩ = some (.int .i64 (sW P k)) ∧ w'.cell? ⟨g7, 1, none⟩ = some (.int .i64 (P.wd k))) 12 (by kernel_rfl) (by kernel_rfl) (by kernel_rfl) (by kernel_rfl) ?hSS (fun hHeld => ?_)
            case hSS => exact ⟨a3, c2, y1⟩
            simp only [List.take_succ_cons, List.take_zero]
            refine wpAnyH_take (i := 0) (v := ?vSn0) rfl (by kernel_rfl) (by kernel_rfl) (by kernel_rfl) (fun _ _ _ h => h) (Or.inl ⟨by rfl, ?hySn0⟩) (by assumption) ?_
            case hySn0 => (intro w hSw; (try dsimp only at hSw); go_simp; try with_reducible rfl)
            try simp only [Act.put, List.getElem_toArray, List.getElem_cons_zero, List.setIfInBounds_toArray, List.set_cons_zero, List.set_cons_succ]
            refine wpAnyH_take (i := 1) (v := ?vSn1) rfl (by kernel_rfl) (by kernel_rfl) (by kernel_rfl) (fun _ _ _ h => h) (Or.inl ⟨by rfl, ?hySn1⟩) (by assumption) ?_
            case hySn1 => (intro w hSw; (try dsimp only at hSw); go_simp; try with_reducible rfl)
            try simp only [Act.put, List.getElem_toArray, List.getElem_cons_zero, List.getElem_cons_succ, List.setIfInBounds_toArray, List.set_cons_zero, List.set_cons_succ]
            refine wpAnyH_take (i := 2) (v := ?vSn2) rfl (by kernel_rfl) (by kernel_rfl) (by kernel_rfl) (fun _ _ _ h => h) (Or.inl ⟨by rfl, ?hySn2⟩) (by assumption) ?_
            case hySn2 => (intro w hSw; (try dsimp only at hSw); go_simp; try with_reducible rfl)
            try simp only [Act.put, List.getElem_toArray, List.getElem_cons_zero, List.getElem_cons_succ, List.setIfInBounds_toArray, List.set_cons_zero, List.set_cons_succ]
            refine wpAnyH_take (i := 3) (v := ?vSn3) rfl (by kernel_rfl) (by kernel_rfl) (by kernel_rfl) (fun _ _ _ h => h) (Or.inl ⟨by rfl, ?hySn3⟩) (by assumption) ?_
            case hySn3 => (intro w hSw; (try dsimp only at hSw); go_simp; try with_reducible rfl)
            try simp only [Act.put, List.getElem_toArray, List.getElem_cons_zero, List.getElem_cons_succ, List.setIfInBounds_toArray, List.set_cons_zero, List.set_cons_succ]
            refine wpAnyH_take (i := 4) (v := ?vSn4) rfl (by kernel_rfl) (by kernel_rfl) (by kernel_rfl) (fun _ _ _ h => h) (Or.inl ⟨by rfl, ?hySn4⟩) (by assumption) ?_
            case hySn4 => (intro w hSw; (try dsimp only at hSw); go_simp; try with_reducible rfl)
            try simp only [Act.put, List.getElem_toArray, List.getElem_cons_zero, List.getElem_cons_succ, List.setIfInBounds_toArray, List.set_cons_zero, List.set_cons_succ]
            refine wpAnyH_take (i := 5) (v := ?vSn5) rfl (by kernel_rfl) (by kernel_rfl) (by kernel_rfl) (fun _ _ _ h => h) (Or.inl ⟨by rfl, ?hySn5⟩) (by assumption) ?_
            case hySn5 => (intro w hSw; (try dsimp only at hSw); go_simp; try with_reducible rfl)
            try simp only [Act.put, List.getElem_toArray, List.getElem_cons_zero, List.getElem_cons_succ, List.setIfInBounds_toArray, List.set_cons_zero, List.set_cons_succ]
            refine wpAnyH_take (i := 6) (v := ?vSn6) rfl (by kernel_rfl) (by kernel_rfl) (by kernel_rfl) (fun _ _ _ h => h) (Or.inl ⟨by rfl, ?hySn6⟩) (by assumption) ?_
            case hySn6 => (intro w hSw; (try dsimp only at hSw); go_simp; try with_reducible rfl)
            try simp only [Act.put, List.getElem_toArray, List.getElem_cons_zero, List.getElem_cons_succ, List.setIfInBounds_toArray, List.set_cons_zero, List.set_cons_succ]
            refine wpAnyH_take (i := 7) (v := ?vSn7) rfl (by kernel_rfl) (by kernel_rfl) (by kernel_rfl) (fun _ _ _ h => h) (Or.inl ⟨by rfl, ?hySn7⟩) (by assumption) ?_
            case hySn7 => (intro w hSw; (try dsimp only at hSw); go_simp; try with_reducible rfl)
            try simp only [Act.put, List.getElem_toArray, List.getElem_cons_zero, List.getElem_cons_succ, List.setIfInBounds_toArray, List.set_cons_zero, List.set_cons_succ]
            refine wpAnyH_take (i := 8) (v := ?vSn8) rfl (by kernel_rfl) (by kernel_rfl) (by kernel_rfl) (fun _ _ _ h => h) (Or.inl ⟨by rfl, ?hySn8⟩) (by assumption) ?_
            case hySn8 => (intro w hSw; (try dsimp only at hSw); go_simp; try with_reducible rfl)
            try simp only [Act.put, List.getElem_toArray, List.getElem_cons_zero, List.getElem_cons_succ, List.setIfInBounds_toArray, List.set_cons_zero, List.set_cons_succ]
            refine wpAnyH_take (i := 9) (v := ?vSn9) rfl (by kernel_rfl) (by kernel_rfl) (by kernel_rfl) (fun _ _ _ h => h) (Or.inl ⟨by rfl, ?hySn9⟩) (by assumption) ?_
            case hySn9 => (intro w hSw; (try dsimp only at hSw); go_simp; try with_reducible rfl)
            try simp only [Act.put, List.getElem_toArray, List.getElem_cons_zero, List.getElem_cons_succ, List.setIfInBounds_toArray, List.set_cons_zero, List.set_cons_succ]
            refine wpAnyH_take (i := 10) (v := ?vSn10) rfl (by kernel_rfl) (by kernel_rfl) (by kernel_rfl) (fun _ _ _ h => h) (Or.inl ⟨by rfl, ?hySn10⟩) (by assumption) ?_
            case hySn10 => (intro w hSw; (try dsimp only at hSw); go_simp; try with_reducible rfl)
            try simp only [Act.put, List.getElem_toArray, List.getElem_cons_zero, List.getElem_cons_succ, List.setIfInBounds_toArray, List.set_cons_zero, List.set_cons_succ]
            refine wpAnyH_take (i := 11) (v := ?vSn11) rfl (by kernel_rfl) (by kernel_rfl) (by kernel_rfl) (fun _ _ _ h => h) (Or.inl ⟨by rfl, ?hySn11⟩) (by assumption) ?_
            case hySn11 => (intro w hSw; (try dsimp only at hSw); go_simp; try with_reducible rfl)
            try simp only [Act.put, List.getElem_toArray, List.getElem_cons_zero, List.getElem_cons_succ, List.setIfInBounds_toArray, List.set_cons_zero, List.set_cons_succ]
            refine wpAnyH_done (by kernel_rfl) ?_ _
            refine sink_run rfl rfl ?_
            go_simp
            go_wp2_with fail
            exact ⟨⟨k + 1, by omega, by simp, hide (((HPh.out.drewN 1).set2 (k + 1) (sW P k + P.wd k)).congr (fun i _ => by
                rw [← upto_next (f := sW P), e1.out]
                unfold upd
                split <;> rfl) (fun _ _ => rfl) (fun _ _ => rfl) (fun _ _ => rfl))⟩, by simp only [intOf]; omega⟩
      · obtain rfl : k = P.n := by omega
        clear hlt hk
        have a6 : wr.cell? ⟨gm, 6, none⟩ = some (.slice (some ⟨h5, 0, none⟩) (P.n + 2) (P.n + 2)) := HP.out.bm.cell 6
        have c5 := tab_cell HP.out.b5 (show P.n < P.n + 2 by omega)
        have z5 := HP.out.b5.frozen P.n
        have i5 : (P.n : Int) < (P.n : Int) + 2 := by omega
        have HP2 := hide ((HP.out.set5 P.n (P.n : Int)).congr (fun _ _ => rfl) (fun _ _ => rfl) (fun _ _ => rfl) (fun i _ => bgF_first P i))
        have hbge := bg_end P
        have Hbge := hide hbge
        clear HP hbge
        obtain ⟨wo, rfl⟩ : ∃ wo : World, wo = wr := ⟨_, rfl⟩
        go_wp2_with fail
        clear a6 c5 z5
        go_loopw [8, 9] (fun v a wx => ∃ (m : Nat) (z : Int), m ≤ P.n ∧ z = (m : Int) - 1 ∧ a = .int .i64 z ∧ v = .int .i64 (bg P m) ∧ Hid (PS w1 gm h2 h3 h4 h5 P.n #[.slice Ap P.n cp, .slice Aw ws.length cw, .int .i64 D, .slice (some ⟨h2, 0, none⟩) (P.n + 1) (P.n + 1), .slice (some ⟨h3, 0, none⟩) (P.n + 1) (P.n + 1), .slice (some ⟨h4, 0, none⟩) (P.n + 1) (P.n + 1), .slice (some ⟨h5, 0, none⟩) (P.n + 2) (P.n + 2)] (upto (sW P) P.n) (upto (sG P) P.n) (upto (sY P) P.n) (bgF P m) wx)) (fun _ a _ => (intOf a + 1).toNat)
        case atStart => exact ⟨P.n, _, by omega, rfl, rfl, by rw [Hbge.out], HP2⟩
        case round =>
          clear HP2
          obtain ⟨m, z, hm, hz, rfl, rfl, HP⟩ := hrel
          by_cases hpos : 0 < m
          · obtain ⟨q, rfl⟩ : ∃ q, m = q + 1 := ⟨m - 1, by omega⟩
            obtain rfl : z = (q : Int) := by omega
            clear hz hpos
            have hq : q < P.n := by omega
            obtain ⟨bp, off, rfl, hc⟩ := (Hr2.out.below HP.out.bel).at_ hq
            have k0 : wr.cell? ⟨bp, off + q * 6, none⟩ = some (.int .i64 (P.kd q)) := hc 0 (by omega)
            have k4 : wr.cell? ⟨bp, off + q * 6 + 4, none⟩ = some (.int .i64 (P.co q)) := hc 4 (by omega)
            have hb := hide (bg_step P hq)
            have i1 : (q : Int) < (P.n : Int) := by omega
            clear hc
            go_upto_region 14 with fail
            go_cut [140] (fun v wd => v = .bool (box P q) ∧ wr = wd)
            case first => as_aux_lemma =>
              rcases (show P.kd q = 0 ∨ P.kd q = 2 ∨ (¬ P.kd q = 0 ∧ ¬ P.kd q = 2) by omega) with h0 | h2k | ⟨h0, h2k⟩
              · have d0 : (P.kd q == 0) = true := by simpa using h0
                have hbx := hide (show box P q = true by unfold box; rw [d0]; rfl)
                generalize P.kd q = kd at *
                clear h0
                go_wp2_with fail
                go_meet
                exact ⟨by rw [hbx.out], rfl⟩
              · have d0 : (P.kd q == 0) = false := by rw [h2k]; rfl
                have d2 : (P.kd q == 2) = true := by simpa using h2k
                by_cases h4 : P.co q = -10000
                · have d4 : (P.co q == -10000) = true := by simpa using h4
                  have hbx := hide (show box P q = true by unfold box; rw [d0, d2, d4]; rfl)
                  generalize P.kd q = kd at *
                  generalize P.co q = co at *
                  clear h2k h4
                  go_wp2_with fail
                  go_meet
                  exact ⟨by rw [hbx.out], rfl⟩
                · have d4 : (P.co q == -10000) = false := by simpa using h4
                  have hbx := hide (show box P q = false by unfold box; rw [d0, d2, d4]; rfl)
                  generalize P.kd q = kd at *
                  generalize P.co q = co at *
                  clear h2k h4
                  go_wp2_with fail
                  go_meet
                  exact ⟨by rw [hbx.out], rfl⟩
              · have d0 : (P.kd q == 0) = false := by simpa using h0
                have d2 : (P.kd q == 2) = false := by simpa using h2k
                have hbx := hide (show box P q = false by unfold box; rw [d0, d2]; rfl)
                generalize P.kd q = kd at *
                clear h0 h2k
                go_wp2_with fail
                go_meet
                exact ⟨by rw [hbx.out], rfl⟩
            case rest =>
              obtain ⟨rfl, rfl⟩ := hcut
              clear k0 k4
              go_upto_if 140 with fail
              go_cut [8] (fun v wd => v = .int .i64 (bg P q) ∧ wr = wd)
              case first => as_aux_lemma =>
                generalize box P q = bq at *
                cases bq with
                | true =>
                  have hb2 := hide (show bg P q = q from hb.out)
                  clear hb
                  go_wp2_with fail
                  go_meet
                  exact ⟨by rw [hb2.out], rfl⟩
                | false =>
                  have hb2 := hide (show bg P q = bg P (q + 1) from hb.out)
                  clear hb
                  go_wp2_with fail
                  go_meet
                  exact ⟨by rw [hb2.out], rfl⟩
              case rest =>
                obtain ⟨rfl, rfl⟩ := hcut
                have a6 : wr.cell? ⟨gm, 6, none⟩ = some (.slice (some ⟨h5, 0, none⟩) (P.n + 2) (P.n + 2)) := HP.out.bm.cell 6
                have c5 := tab_cell HP.out.b5 (show q < P.n + 2 by omega)
                have z5 := HP.out.b5.frozen q
                have i5 : (q : Int) < (P.n : Int) + 2 := by omega
                have HP2 := hide ((HP.out.set5 q (bg P q : Int)).congr (fun _ _ => rfl) (fun _ _ => rfl) (fun _ _ => rfl) (fun i _ => bgF_next P (by omega) i))
                clear HP hb
                go_wp2_with fail
                exact ⟨⟨q, (q : Int) - 1, by omega, rfl, by simp, rfl, HP2⟩, by simp only [intOf]; omega⟩
          · obtain rfl : m = 0 := by omega
            obtain rfl : z = -1 := by omega
            clear hz hpos
            go_wp2_with fail
            go_ret
            obtain ⟨hr1, hw1, hbl⟩ := Hr.out
            have hb := HP.out.bel
            have hbz : Below w.heap.size w wr := by
              first
                | exact hbl.trans (hb.mono hbl.size)
                | (rw [hg]; exact hbl.trans (hb.mono (by rw [← hg]; exact hbl.size)))
            exact ⟨gm, _, _, _, _, _, _, _, _, rfl, ⟨HP.out.bm, hr1.below hb, hw1.below hb, by
              rw [← tab_congr (F := upto (sW P) P.n) (fun i hi => upto_at (by omega))]
              exact rdI_tab HP.out.b2, by
              rw [← tab_congr (F := upto (sG P) P.n) (fun i hi => upto_at (by omega))]
              exact rdI_tab HP.out.b3, by
              rw [← tab_congr (F := upto (sY P) P.n) (fun i hi => upto_at (by omega))]
              exact rdI_tab HP.out.b4, by
              rw [← tab_congr (F := bgF P 0) (fun i hi => by unfold bgF; by_cases h : i ≤ P.n <;> simp [h])]
              exact rdI_tab HP.out.b5⟩, hbz⟩
end Go.Proofs.Ytmjhmcjlbcadaaa.Ln
