/- The contract of search. -/
import Derived.Test.YtegmokdhfmgdgaaRtStep
import Derived.Test.YtegmokdhfmgdgaaRtWalk
import Derived.Test.YtegmokdhfmgdgaaRtLines
import Derived.Test.YtegmokdhfmgdgaaRtSearchPlain
import Derived.Test.YtegmokdhfmgdgaaRtSearchMem
import Derived.Deep.LoopGhost
namespace Go.Proofs.Ytegmokdhfmgdgaa.Rt
open Go.RowKit Go.Frm Go.Frm.Rt

theorem inc_count {l : List Int} (h : Inc l) {x : Int} (hx : x ∈ l) : l.countP (fun y => decide (y < x)) < l.length ∧ ix l (l.countP (fun y => decide (y < x))) = x := by
  induction l with
  | nil => cases hx
  | cons a l ih =>
    have h1 := List.pairwise_cons.1 h
    rcases List.mem_cons.1 hx with rfl | hm
    · have h0 : l.countP (fun y => decide (y < x)) = 0 := by
        rw [List.countP_eq_zero]
        intro y hy
        have := h1.1 y hy
        simp
        omega
      rw [List.countP_cons, h0, if_neg (by simp)]
      exact ⟨by simp, rfl⟩
    · have hlt := h1.1 x hm
      obtain ⟨i1, i2⟩ := ih h1.2 hm
      rw [List.countP_cons, if_pos (by simpa using hlt)]
      refine ⟨by simp only [List.length_cons]; omega, ?_⟩
      show (a :: l).getD (_ + 1) 0 = x
      rw [List.getD_cons_succ]
      exact i2
def pos (l : List Int) (x : Int) : Nat := l.countP (fun y => decide (y < x))
theorem inc_pos {l : List Int} (h : Inc l) {x : Int} (hx : x ∈ l) : pos l x < l.length ∧ ix l (pos l x) = x := inc_count h hx
/-- the axes of a search -/
def axX (p q : Pt) (fs : Nat → Fr) (n : Nat) : List Int := axis (crd p.1 q.1 (frP fs) n)
def axY (p q : Pt) (fs : Nat → Fr) (n : Nat) : List Int := axis (crd p.2 q.2 (frQ fs) n)
def netOf (p q : Pt) (fs : Nat → Fr) (n : Nat) : Net := gE (ix (axX p q fs n)) (ix (axY p q fs n)) (axX p q fs n).length (axY p q fs n).length n fs
def Short (p q : Pt) (first last : Int) : Prop := p = q ∧ (first = -1 ∨ last = -1 ∨ first = last)
def SPost (p q : Pt) (first last : Int) (fs : Nat → Fr) (n : Nat) (is : Bool) (l : List Pt) : Prop :=
  (Short p q first last ∧ is = true ∧ l = [p]) ∨ (¬ Short p q first last ∧
    ((is = true ∧ Found (netOf p q fs n) first last (pos (axX p q fs n) p.1) (pos (axY p q fs n) p.2) (pos (axX p q fs n) q.1) (pos (axY p q fs n) q.2) (ix (axX p q fs n)) (ix (axY p q fs n)) l) ∨
     (is = false ∧ Lost (netOf p q fs n) first last (pos (axX p q fs n) p.1) (pos (axY p q fs n) p.2) (pos (axX p q fs n) q.1) (pos (axY p q fs n) q.2))))
/-- what a search gives -/
def SRes (w0 w' : World) (M : Nat) (p q : Pt) (first last : Int) (fs : Nat → Fr) (n : Nat) (e : Ending) : Prop := ∃ (A' : Option Addr) (m c' : Nat) (Q : Nat → Pt) (is : Bool), e = .returned (.tuple #[.slice A' m c', .bool is]) ∧
  (w'.ownsRow M 24 2 (.slice A' m c') m (rowF m 2 (ptF Q)) ∧ m ≤ 1000000) ∧ Below M w0 w' ∧ SPost p q first last fs n is ((List.range m).map Q)
theorem axis_spec (l : List Int) : Inc (axis l) ∧ (∀ x, x ∈ axis l ↔ x ∈ l ++ [Lib.minOf l - 100, Lib.maxOf l + 100]) := compact_srt
theorem axis_len (l : List Int) : (axis l).length ≤ l.length + 2 := by
  unfold axis Lib.compact Lib.compactUpTo
  rw [List.length_map]
  refine Nat.le_trans (List.length_filter_le _ _) ?_
  rw [List.length_range, srt_len, List.length_append]
  exact Nat.le_refl _
theorem axis_bnd {l : List Int} (h : ∀ x, x ∈ l → bnd x) (h0 : 0 < l.length) : ∀ i, i < (axis l).length → -1000000 ≤ ix (axis l) i ∧ ix (axis l) i ≤ 1000000 := fun i hi => by
  have h1 : ix (axis l) i ∈ axis l := by rw [ix_eq hi]; exact List.getElem_mem hi
  rcases List.mem_append.1 (((axis_spec l).2 _).1 h1) with h2 | h2
  · have := h _ h2
    unfold bnd at this
    omega
  · have a1 := h _ (minOf_spec h0).1
    have a2 := h _ (maxOf_spec h0).1
    unfold bnd at a1 a2
    simp at h2
    omega
theorem own_litP (w : World) (base : Nat) (p : Pt) (hb : base ≤ w.heap.size) : (w.alloc (.cells #[.int .i64 p.1, .int .i64 p.2] 24)).ownsRow base 24 2 (.slice (some ⟨w.heap.size, 0, none⟩) 1 1) 1 (rowF 1 2 (ptF fun _ => p)) := by
  refine ⟨by rw [rowF_length], .inr ⟨w.heap.size, 1, #[.int .i64 p.1, .int .i64 p.2], rfl, hb, heap_alloc_new w _, Nat.le_refl _, by decide, rfl, ?_⟩⟩
  rfl
def shB (px py qx qy first last : Int) : Bool := (px == qx) && (py == qy) && ((first == -1) || (last == -1) || (first == last))
theorem tab_self (l : List Int) : tab l.length (ix l) = l := by
  refine List.ext_getElem (tab_length _ _) (fun i h1 h2 => ?_)
  rw [← ix_eq h1, tab_ix _ h2, ix_eq h2]
def cl0 (sx sy : Nat) : Nat → St := fun _ => ⟨sx, sy, 0, ⟨0, 0⟩, -1⟩
theorem cl0_row (sx sy : Nat) : rowF 1 6 (stF (cl0 sx sy)) = [.int .i64 (sx : Nat), .int .i64 (sy : Nat), .int .i64 0, .int .i64 0, .int .i64 0, .int .i64 (-1)] := rfl
def accB (last : Int) (tx ty x y d : Nat) : Bool := ((x : Int) == (tx : Int)) && ((y : Int) == (ty : Int)) && ((last == -1) || (last == (d : Int)))
theorem acc_iff (last : Int) (tx ty : Nat) (s : St) : acc last tx ty s ↔ accB last tx ty s.x s.y s.d = true := by
  unfold acc accB dirOk
  simp only [Bool.and_eq_true, Bool.or_eq_true, beq_iff_eq]
  constructor
  · rintro ⟨h1, h2, h3⟩
    exact ⟨⟨by omega, by omega⟩, h3⟩
  · rintro ⟨⟨h1, h2⟩, h3⟩
    exact ⟨by omega, by omega, h3⟩
theorem shB_no {px py qx qy first last : Int} (h : ¬ (px = qx ∧ py = qy)) : shB px py qx qy first last = false := by
  unfold shB
  by_cases e1 : px = qx
  · by_cases e2 : py = qy
    · exact absurd ⟨e1, e2⟩ h
    · rw [show (py == qy) = false by simp [e2]]; simp
  · rw [show (px == qx) = false by simp [e1]]; simp
theorem short_iff (px py qx qy first last : Int) : Short (px, py) (qx, qy) first last ↔ shB px py qx qy first last = true := by
  unfold Short shB
  simp only [Bool.and_eq_true, Bool.or_eq_true, beq_iff_eq, Prod.mk.injEq]
  constructor
  · rintro ⟨⟨h1, h2⟩, h3 | h3 | h3⟩
    · exact ⟨⟨h1, h2⟩, .inl (.inl h3)⟩
    · exact ⟨⟨h1, h2⟩, .inl (.inr h3)⟩
    · exact ⟨⟨h1, h2⟩, .inr h3⟩
  · rintro ⟨⟨h1, h2⟩, (h3 | h3) | h3⟩
    · exact ⟨⟨h1, h2⟩, .inl h3⟩
    · exact ⟨⟨h1, h2⟩, .inr (.inl h3)⟩
    · exact ⟨⟨h1, h2⟩, .inr (.inr h3)⟩
/-- what lies in memory when the axes are laid -/
structure SW (w0 wr : World) (M b gd N gx cx gy cy : Nat) (xs ys : List Int) (A : Option Addr) (n c : Nat) (px py qx qy : Int) : Prop where
  grid : Blk wr b 53 #[.slice (some ⟨gx, 0, none⟩) xs.length cx, .slice (some ⟨gy, 0, none⟩) ys.length cy, .slice A n c, .slice (some ⟨gd, 0, none⟩) N N, .slice none 0 0, .slice none 0 0]
  dne : BB wr gd N (fun _ => false)
  bel : Below M w0 wr
  x : RdI wr (some ⟨gx, 0, none⟩) xs
  y : RdI wr (some ⟨gy, 0, none⟩) ys
  pB : Blk wr M 24 #[.int .i64 px, .int .i64 py]
  qB : Blk wr (M + 1) 24 #[.int .i64 qx, .int .i64 qy]
  sz : wr.heap.size = gd + 1
theorem SW.drewN {w0 wr : World} {M b gd N gx cx gy cy : Nat} {xs ys : List Int} {A : Option Addr} {n c : Nat} {px py qx qy : Int} (h : SW w0 wr M b gd N gx cx gy cy xs ys A n c px py qx qy) (k : Nat) : SW w0 (wr.drewN k) M b gd N gx cx gy cy xs ys A n c px py qx qy :=
  ⟨h.grid.drewN k, h.dne, below_drewN h.bel k, h.x.drewN k, h.y.drewN k, h.pB.drewN k, h.qB.drewN k, h.sz⟩
theorem find_ok {w : World} {g cx : Nat} {xs : List Int} (h : RdI w (some ⟨g, 0, none⟩) xs) (hi : Inc xs) (hl : xs.length ≤ 1000) (z : Int) (nq : Nat) :
    Calls Try.prog 20 #[.slice (some ⟨g, 0, none⟩) xs.length cx, .int .i64 z] (w.drewN nq) fun e w' => e = .returned (.tuple #[.int .i64 (pos xs z : Nat), .bool (xs.contains z)]) ∧ ∃ m, w' = w.drewN m := by
  have h1 := Try.slices_BinarySearch_int g 0 xs.length cx xs z (w.drewN nq) (Nat.le_refl _) (by omega) (fun j hj => (h.drewN nq).get hj) (by rw [List.take_length]; exact hi.imp fun h => Int.le_of_lt h)
  rw [List.take_length] at h1
  refine h1.mono ?_
  rintro e w' ⟨rfl, q, rfl⟩
  exact ⟨rfl, nq + q, World.drewN_drewN _ _ _⟩
theorem few1 : 1 ≤ 1000000 := by omega
theorem short_few {X Y : Nat → Int} {cl : Nat → St} {m n : Nat} {Q : Nat → Pt} (h : (List.range n).map Q = short (ptOf X Y (backs cl m m).reverse) (backs cl m m).length) (hm : m ≤ 61505) : n ≤ 1000000 := by
  have h1 := congrArg List.length h
  rw [List.length_map, List.length_range, ← shK_end] at h1
  have h2 := shK_len (ptOf X Y (backs cl m m).reverse) _ (Nat.le_refl _) (backs_len (cl := cl) m m).2
  have h3 := (backs_len (cl := cl) m m).1
  omega
set_option maxRecDepth 100000 in
set_option maxHeartbeats 80000000 in
theorem search_ok {w : World} {A : Option Addr} {n c : Nat} {fs : Nat → Fr} (hr : RdF w A n 4 (frF fs)) (hn : n ≤ 60) (hf : ∀ i, i < n → frB (fs i)) (hA : ∀ ad, A = some ad → ad.block < w.heap.size) (p q : Pt) (hp : bnd p.1 ∧ bnd p.2) (hq : bnd q.1 ∧ bnd q.2) (first last : Int) :
    Calls Try.prog 16 #[.slice A n c, ptV p, ptV q, .int .i64 first, .int .i64 last] w fun e w' => SRes w w' w.heap.size p q first last fs n e := by
  obtain ⟨M, hM⟩ : ∃ M, M = w.heap.size := ⟨_, rfl⟩
  have HM := hide hM
  rw [← hM]
  have HLn := hide (fun wx (h : Below M w wx) => lines_ok (w := wx) (c := c) (hr.below (by rw [← hM]; exact h)) (by omega) hf p q hp hq)
  have HR : Hid (∀ wx, Below M w wx → RdF wx A n 4 (frF fs)) := hide (fun wx h => hr.below (by rw [← hM]; exact h))
  have HX := hide (axis_bnd (crd_bnd hp.1 hq.1 (frP_bnd hf).1) (by rw [(crd_len p.1 q.1 fs n).1]; omega))
  have HY := hide (axis_bnd (crd_bnd hp.2 hq.2 (frP_bnd hf).2) (by rw [(crd_len p.2 q.2 fs n).2]; omega))
  have hlx : (axis (crd p.1 q.1 (frP fs) n)).length ≤ 124 := by have := axis_len (crd p.1 q.1 (frP fs) n); rw [(crd_len p.1 q.1 fs n).1] at this; omega
  have hly : (axis (crd p.2 q.2 (frQ fs) n)).length ≤ 124 := by have := axis_len (crd p.2 q.2 (frQ fs) n); rw [(crd_len p.2 q.2 fs n).2] at this; omega
  have ipx := hide (inc_pos (axis_spec (crd p.1 q.1 (frP fs) n)).1 (x := p.1) (((axis_spec _).2 _).2 (by unfold crd; simp)))
  have ipy := hide (inc_pos (axis_spec (crd p.2 q.2 (frQ fs) n)).1 (x := p.2) (((axis_spec _).2 _).2 (by unfold crd; simp)))
  have iqx := hide (inc_pos (axis_spec (crd p.1 q.1 (frP fs) n)).1 (x := q.1) (((axis_spec _).2 _).2 (by unfold crd; simp)))
  have iqy := hide (inc_pos (axis_spec (crd p.2 q.2 (frQ fs) n)).1 (x := q.2) (((axis_spec _).2 _).2 (by unfold crd; simp)))
  have HIX := hide (axis_spec (crd p.1 q.1 (frP fs) n)).1
  have HIY := hide (axis_spec (crd p.2 q.2 (frQ fs) n)).1
  have HSP : Hid (∀ is l, SPost p q first last fs n is l ↔ (Short p q first last ∧ is = true ∧ l = [p]) ∨ (¬ Short p q first last ∧
    ((is = true ∧ Found (gE (ix (axis (crd p.1 q.1 (frP fs) n))) (ix (axis (crd p.2 q.2 (frQ fs) n))) (axis (crd p.1 q.1 (frP fs) n)).length (axis (crd p.2 q.2 (frQ fs) n)).length n fs) first last (pos (axis (crd p.1 q.1 (frP fs) n)) p.1) (pos (axis (crd p.2 q.2 (frQ fs) n)) p.2) (pos (axis (crd p.1 q.1 (frP fs) n)) q.1) (pos (axis (crd p.2 q.2 (frQ fs) n)) q.2) (ix (axis (crd p.1 q.1 (frP fs) n))) (ix (axis (crd p.2 q.2 (frQ fs) n))) l) ∨
     (is = false ∧ Lost (gE (ix (axis (crd p.1 q.1 (frP fs) n))) (ix (axis (crd p.2 q.2 (frQ fs) n))) (axis (crd p.1 q.1 (frP fs) n)).length (axis (crd p.2 q.2 (frQ fs) n)).length n fs) first last (pos (axis (crd p.1 q.1 (frP fs) n)) p.1) (pos (axis (crd p.2 q.2 (frQ fs) n)) p.2) (pos (axis (crd p.1 q.1 (frP fs) n)) q.1) (pos (axis (crd p.2 q.2 (frQ fs) n)) q.2))))) := hide (fun is l => Iff.rfl)
  change ∀ i, i < (axis (crd p.1 q.1 (frP fs) n)).length → _ at HX
  generalize axis (crd p.1 q.1 (frP fs) n) = xs at *
  generalize axis (crd p.2 q.2 (frQ fs) n) = ys at *
  obtain ⟨px, py⟩ := p
  obtain ⟨qx, qy⟩ := q
  have HA := hide hA
  clear hr hf hp hq hM hA
  unfold ptV at HLn ⊢
  dsimp only at HLn ipx ipy iqx iqy HSP ⊢
  go_enter Try.func16, Try.ntmps16
  go_upto_region 2 with fail
  have hPB := ((Blk.new w 24 #[.int .i64 px, .int .i64 py]).alloc (.cells #[.int .i64 qx, .int .i64 qy] 24)).alloc (.cells #[.slice none 0 0, .slice none 0 0, .slice A n c, .slice none 0 0, .slice none 0 0, .slice none 0 0] 53)
  have hQB := (Blk.new (w.alloc (.cells #[.int .i64 px, .int .i64 py] 24)) 24 #[.int .i64 qx, .int .i64 qy]).alloc (.cells #[.slice none 0 0, .slice none 0 0, .slice A n c, .slice none 0 0, .slice none 0 0, .slice none 0 0] 53)
  have hGB := Blk.new ((w.alloc (.cells #[.int .i64 px, .int .i64 py] 24)).alloc (.cells #[.int .i64 qx, .int .i64 qy] 24)) 53 #[.slice none 0 0, .slice none 0 0, .slice A n c, .slice none 0 0, .slice none 0 0, .slice none 0 0]
  have hBe := (((Below.refl w.heap.size w).alloc (Nat.le_refl _) (.cells #[.int .i64 px, .int .i64 py] 24)).alloc (by simp) (.cells #[.int .i64 qx, .int .i64 qy] 24)).alloc (by simp; omega) (.cells #[.slice none 0 0, .slice none 0 0, .slice A n c, .slice none 0 0, .slice none 0 0, .slice none 0 0] 53)
  have hsz : (((w.alloc (.cells #[.int .i64 px, .int .i64 py] 24)).alloc (.cells #[.int .i64 qx, .int .i64 qy] 24)).alloc (.cells #[.slice none 0 0, .slice none 0 0, .slice A n c, .slice none 0 0, .slice none 0 0, .slice none 0 0] 53)).heap.size = w.heap.size + 3 := by simp
  rw [hsz_alloc] at hQB hGB
  rw [hsz_alloc] at hGB
  rw [← HM.out] at hPB hQB hGB hBe hsz
  rw [← HM.out]
  generalize ((w.alloc (.cells #[.int .i64 px, .int .i64 py] 24)).alloc (.cells #[.int .i64 qx, .int .i64 qy] 24)).alloc (.cells #[.slice none 0 0, .slice none 0 0, .slice A n c, .slice none 0 0, .slice none 0 0, .slice none 0 0] 53) = w1 at *
  have hGB : Blk w1 (M + 1 + 1) 53 #[.slice none 0 0, .slice none 0 0, .slice A n c, .slice none 0 0, .slice none 0 0, .slice none 0 0] := hGB
  obtain ⟨b, Hb⟩ : ∃ b, Hid (b = M + 1 + 1) := ⟨_, rfl⟩
  rw [← Hb.out] at hGB
  rw [← Hb.out]
  have hb1 : M + 2 ≤ b := by have := Hb.out; omega
  have hb0 : b ≤ M + 2 := by have := Hb.out; omega
  change Blk w1 b 53 #[.slice none 0 0, .slice none 0 0, .slice A n c, .slice none 0 0, .slice none 0 0, .slice none 0 0] at hGB
  have p0 : w1.cell? ⟨M, 0, none⟩ = some (.int .i64 px) := hPB.cell 0
  have p1 : w1.cell? ⟨M, 1, none⟩ = some (.int .i64 py) := hPB.cell 1
  have q0 : w1.cell? ⟨M + 1, 0, none⟩ = some (.int .i64 qx) := hQB.cell 0
  have q1 : w1.cell? ⟨M + 1, 1, none⟩ = some (.int .i64 qy) := hQB.cell 1
  go_wp2_with fail
  refine (HLn.out _ hBe).mono ?_
  rintro e2 w2 ⟨gx, cx, gy, cy, rfl, hx2, hy2, hgx1, hgx2, hgy1, hgy2, hb2⟩
  have hGB2 := hGB.below hb2 hGB.lt
  have HG3 := hide ((hGB2.set_ 0 (.slice (some ⟨gx, 0, none⟩) xs.length cx)).set_ 1 (.slice (some ⟨gy, 0, none⟩) ys.length cy))
  have HP3 := hide (((hPB.below hb2 hPB.lt).far (p := ⟨b, 0, none⟩) (show M ≠ b by omega) (.slice (some ⟨gx, 0, none⟩) xs.length cx)).far (p := ⟨b, 1, none⟩) (show M ≠ b by omega) (.slice (some ⟨gy, 0, none⟩) ys.length cy))
  have HQ3 := hide (((hQB.below hb2 hQB.lt).far (p := ⟨b, 0, none⟩) (show M + 1 ≠ b by omega) (.slice (some ⟨gx, 0, none⟩) xs.length cx)).far (p := ⟨b, 1, none⟩) (show M + 1 ≠ b by omega) (.slice (some ⟨gy, 0, none⟩) ys.length cy))
  rw [hsz] at hgx1 hgy1 hb2
  have hcg : Chg (Is b) w2 ((w2.setCell ⟨b, 0, none⟩ (.slice (some ⟨gx, 0, none⟩) xs.length cx)).setCell ⟨b, 1, none⟩ (.slice (some ⟨gy, 0, none⟩) ys.length cy)) := ((Chg.refl (Is b) w2).setCell (p := ⟨b, 0, none⟩) (.inl rfl) _).setCell (p := ⟨b, 1, none⟩) (.inl rfl) _
  have Hx3 := hide (rdI_chg hx2 hcg (fun ad e => by cases e; show ¬ gx = b; omega))
  have Hy3 := hide (rdI_chg hy2 hcg (fun ad e => by cases e; show ¬ gy = b; omega))
  have hbM : Below M w w2 := hBe.trans (hb2.mono (by omega))
  have HB3 := hide ((hbM.setCell (p := ⟨b, 0, none⟩) (show M ≤ b by omega) (.slice (some ⟨gx, 0, none⟩) xs.length cx)).setCell (p := ⟨b, 1, none⟩) (show M ≤ b by omega) (.slice (some ⟨gy, 0, none⟩) ys.length cy))
  have f0 := hGB2.frozen 0
  have f1 := hGB2.frozen 1
  have z0 : w2.cell? ⟨b, 0, none⟩ = some (.slice none 0 0) := hGB2.cell 0
  have z1 : w2.cell? ⟨b, 1, none⟩ = some (.slice none 0 0) := hGB2.cell 1
  have hsz3 : ((w2.setCell ⟨b, 0, none⟩ (.slice (some ⟨gx, 0, none⟩) xs.length cx)).setCell ⟨b, 1, none⟩ (.slice (some ⟨gy, 0, none⟩) ys.length cy)).heap.size = w2.heap.size := by simp [World.setCell]
  have hw3 : M + 3 ≤ w2.heap.size := by have := hb2.size; omega
  clear HLn hPB hQB hGB hBe hsz p0 p1 q0 q1 hx2 hy2 hb2 hGB2 hcg hbM
  go_upto_region 3 with fail
  clear f0 f1 z0 z1
  have HG4 : Hid (Blk ((w2.setCell ⟨b, 0, none⟩ (.slice (some ⟨gx, 0, none⟩) xs.length cx)).setCell ⟨b, 1, none⟩ (.slice (some ⟨gy, 0, none⟩) ys.length cy)) b 53 #[.slice (some ⟨gx, 0, none⟩) xs.length cx, .slice (some ⟨gy, 0, none⟩) ys.length cy, .slice A n c, .slice none 0 0, .slice none 0 0, .slice none 0 0]) := HG3
  clear HG3
  rw [← hsz3] at hw3 hgx2 hgy2
  clear hsz3
  generalize (w2.setCell ⟨b, 0, none⟩ (.slice (some ⟨gx, 0, none⟩) xs.length cx)).setCell ⟨b, 1, none⟩ (.slice (some ⟨gy, 0, none⟩) ys.length cy) = w3 at *
  have g0 : w3.cell? ⟨b, 0, none⟩ = some (.slice (some ⟨gx, 0, none⟩) xs.length cx) := HG4.out.cell 0
  have g1 : w3.cell? ⟨b, 1, none⟩ = some (.slice (some ⟨gy, 0, none⟩) ys.length cy) := HG4.out.cell 1
  have g3 : w3.cell? ⟨b, 3, none⟩ = some (.slice none 0 0) := HG4.out.cell 3
  have f3 := HG4.out.frozen 3
  obtain ⟨N, HN⟩ : ∃ m, Hid (m = 4 * xs.length * ys.length) := ⟨_, rfl⟩
  obtain ⟨n4, Hn4⟩ : ∃ m, Hid (m = 4 * xs.length) := ⟨_, rfl⟩
  have hN1 : N ≤ 61504 := by
    rw [HN.out]
    exact Nat.mul_le_mul (show 4 * xs.length ≤ 496 by omega) hly
  have e1 : (4 : Int) * (xs.length : Int) = (n4 : Int) := by rw [Hn4.out]; omega
  have e2 : (n4 : Int) * (ys.length : Int) = (N : Int) := by rw [HN.out, Hn4.out]; exact (Int.natCast_mul _ _).symm
  have e3 : IntKind.i64.wrap (n4 : Int) = (n4 : Int) := IntWalk.i64_in _ (by have := Hn4.out; omega)
  have e4 : IntKind.i64.wrap (N : Int) = (N : Int) := IntWalk.i64_in _ (by omega)
  have e5 : IntKind.i64.wrap ((4 : Int) * (xs.length : Int)) = (n4 : Int) := by rw [e1, e3]
  have e6 : IntKind.i64.wrap ((n4 : Int) * (ys.length : Int)) = (N : Int) := by rw [e2, e4]
  have hmk := make_bools N (by omega) (N : Int) rfl
  clear e1 e2
  have bM2 := World.block_lt_of_cell? _ _ g0
  have HG5 := hide ((HG4.out.set_ 3 (.slice (some ⟨w3.heap.size, 0, none⟩) N N)).alloc (.cells (madeCells #[.bool false] N) 4))
  have HD5 := hide (BB.new (w3.setCell ⟨b, 3, none⟩ (.slice (some ⟨w3.heap.size, 0, none⟩) N N)) N)
  have hs5 : (w3.setCell ⟨b, 3, none⟩ (.slice (some ⟨w3.heap.size, 0, none⟩) N N)).heap.size = w3.heap.size := by simp [World.setCell]
  rw [hs5] at HD5
  have HB5 := hide ((HB3.out.setCell (p := ⟨b, 3, none⟩) (show M ≤ b by omega) (.slice (some ⟨w3.heap.size, 0, none⟩) N N)).alloc (by rw [hs5]; omega) (.cells (madeCells #[.bool false] N) 4))
  have hc5 : Chg (Is b) w3 ((w3.setCell ⟨b, 3, none⟩ (.slice (some ⟨w3.heap.size, 0, none⟩) N N)).alloc (.cells (madeCells #[.bool false] N) 4)) := ((Chg.refl (Is b) w3).setCell (p := ⟨b, 3, none⟩) (.inl rfl) _).alloc _
  have Hx5 := hide (rdI_chg Hx3.out hc5 (fun ad e => by cases e; show ¬ gx = b; omega))
  have Hy5 := hide (rdI_chg Hy3.out hc5 (fun ad e => by cases e; show ¬ gy = b; omega))
  have HP5 := hide (blk_chg HP3.out hc5 (show ¬ M = b by omega))
  have HQ5 := hide (blk_chg HQ3.out hc5 (show ¬ M + 1 = b by omega))
  have hs6 : ((w3.setCell ⟨b, 3, none⟩ (.slice (some ⟨w3.heap.size, 0, none⟩) N N)).alloc (.cells (madeCells #[.bool false] N) 4)).heap.size = w3.heap.size + 1 := by rw [hsz_alloc, hs5]
  have S0 : ((w3.setCell ⟨b, 3, none⟩ (.slice (some ⟨w3.heap.size, 0, none⟩) N N)).alloc (.cells (madeCells #[.bool false] N) 4)).cell? ⟨b, 0, none⟩ = some (.slice (some ⟨gx, 0, none⟩) xs.length cx) := HG5.out.cell 0
  have S1 : ((w3.setCell ⟨b, 3, none⟩ (.slice (some ⟨w3.heap.size, 0, none⟩) N N)).alloc (.cells (madeCells #[.bool false] N) 4)).cell? ⟨b, 1, none⟩ = some (.slice (some ⟨gy, 0, none⟩) ys.length cy) := HG5.out.cell 1
  clear hc5 hs5 HG4 HB3 Hx3 Hy3 HP3 HQ3
  go_cut [] (fun wc => wc = ((w3.setCell ⟨b, 3, none⟩ (.slice (some ⟨w3.heap.size, 0, none⟩) N N)).alloc (.cells (madeCells #[.bool false] N) 4)).drew)
  case first =>
    clear HG5 HD5 HB5 Hx5 Hy5 HP5 HQ5 hs6
    go_region_held3 (fun w' => w'.cell? ⟨b, 0, none⟩ = some (.slice (some ⟨gx, 0, none⟩) xs.length cx) ∧ w'.cell? ⟨b, 1, none⟩ = some (.slice (some ⟨gy, 0, none⟩) ys.length cy))
      (first | exact ⟨(cell_drew _ _).trans S0, (cell_drew _ _).trans S1⟩ | exact ⟨S0, S1⟩ | go_keep)
      (fail)
    all_goals (go_wp2_with fail; go_meet; rfl)
  case rest =>
    clear S0 S1 g0 g1 g3 f3 hmk bM2 e3 e4 e5 e6
    subst hcut
    have HG6 : Hid (Blk ((w3.setCell ⟨b, 3, none⟩ (.slice (some ⟨w3.heap.size, 0, none⟩) N N)).alloc (.cells (madeCells #[.bool false] N) 4)).drew b 53 #[.slice (some ⟨gx, 0, none⟩) xs.length cx, .slice (some ⟨gy, 0, none⟩) ys.length cy, .slice A n c, .slice (some ⟨w3.heap.size, 0, none⟩) N N, .slice none 0 0, .slice none 0 0]) := hide (HG5.out.drewN 1)
    have HD6 := hide (show BB ((w3.setCell ⟨b, 3, none⟩ (.slice (some ⟨w3.heap.size, 0, none⟩) N N)).alloc (.cells (madeCells #[.bool false] N) 4)).drew w3.heap.size N (fun _ => false) from HD5.out)
    have HB6 := hide (show Below M w ((w3.setCell ⟨b, 3, none⟩ (.slice (some ⟨w3.heap.size, 0, none⟩) N N)).alloc (.cells (madeCells #[.bool false] N) 4)).drew from below_drewN HB5.out 1)
    have Hx6 := hide (show RdI ((w3.setCell ⟨b, 3, none⟩ (.slice (some ⟨w3.heap.size, 0, none⟩) N N)).alloc (.cells (madeCells #[.bool false] N) 4)).drew _ _ from Hx5.out.drewN 1)
    have Hy6 := hide (show RdI ((w3.setCell ⟨b, 3, none⟩ (.slice (some ⟨w3.heap.size, 0, none⟩) N N)).alloc (.cells (madeCells #[.bool false] N) 4)).drew _ _ from Hy5.out.drewN 1)
    have HP6 := hide (show Blk ((w3.setCell ⟨b, 3, none⟩ (.slice (some ⟨w3.heap.size, 0, none⟩) N N)).alloc (.cells (madeCells #[.bool false] N) 4)).drew _ _ _ from HP5.out.drewN 1)
    have HQ6 := hide (show Blk ((w3.setCell ⟨b, 3, none⟩ (.slice (some ⟨w3.heap.size, 0, none⟩) N N)).alloc (.cells (madeCells #[.bool false] N) 4)).drew _ _ _ from HQ5.out.drewN 1)
    have hs7 : ((w3.setCell ⟨b, 3, none⟩ (.slice (some ⟨w3.heap.size, 0, none⟩) N N)).alloc (.cells (madeCells #[.bool false] N) 4)).drew.heap.size = w3.heap.size + 1 := hs6
    clear HG5 HD5 HB5 Hx5 Hy5 HP5 HQ5 hs6
    generalize ((w3.setCell ⟨b, 3, none⟩ (.slice (some ⟨w3.heap.size, 0, none⟩) N N)).alloc (.cells (madeCells #[.bool false] N) 4)).drew = w4 at *
    obtain ⟨gd, Hgd⟩ : ∃ g, Hid (g = w3.heap.size) := ⟨_, rfl⟩
    rw [← Hgd.out] at HG6 HD6 hs7 hgx2 hgy2 hw3
    have HS := hide (show SW w w4 M b gd N gx cx gy cy xs ys A n c px py qx qy from ⟨HG6.out, HD6.out, HB6.out, Hx6.out, Hy6.out, HP6.out, HQ6.out, hs7⟩)
    clear HG6 HD6 HB6 Hx6 Hy6 HP6 HQ6 hs7
    have Kpx := hide (fun (wx : World) (h : RdI wx (some ⟨gx, 0, none⟩) xs) nq => find_ok (cx := cx) h HIX.out (by omega) px nq)
    have Kpy := hide (fun (wx : World) (h : RdI wx (some ⟨gy, 0, none⟩) ys) nq => find_ok (cx := cy) h HIY.out (by omega) py nq)
    have Kqx := hide (fun (wx : World) (h : RdI wx (some ⟨gx, 0, none⟩) xs) nq => find_ok (cx := cx) h HIX.out (by omega) qx nq)
    have Kqy := hide (fun (wx : World) (h : RdI wx (some ⟨gy, 0, none⟩) ys) nq => find_ok (cx := cy) h HIY.out (by omega) qy nq)
    generalize xs.contains px = tpx at *
    generalize ys.contains py = tpy at *
    generalize xs.contains qx = tqx at *
    generalize ys.contains qy = tqy at *
    generalize pos xs px = sx at *
    generalize pos ys py = sy at *
    generalize pos xs qx = tx at *
    generalize pos ys qy = ty at *
    go_upto_region 4 with fail
    have g0 : w4.cell? ⟨b, 0, none⟩ = some (.slice (some ⟨gx, 0, none⟩) xs.length cx) := HS.out.grid.cell 0
    have a0 : w4.cell? ⟨M, 0, none⟩ = some (.int .i64 px) := HS.out.pB.cell 0
    go_quiet ((go_at_call 20; exact Kpx.out _ HS.out.x _))
    have HS2 := hide (HS.out.drewN nq)
    clear HS g0 a0
    generalize w4.drewN nq = w5 at *
    have HS := HS2
    clear HS2
    go_upto_region 5 with fail
    have g0 : w5.cell? ⟨b, 1, none⟩ = some (.slice (some ⟨gy, 0, none⟩) ys.length cy) := HS.out.grid.cell 1
    have a0 : w5.cell? ⟨M, 1, none⟩ = some (.int .i64 py) := HS.out.pB.cell 1
    go_quiet ((go_at_call 20; exact Kpy.out _ HS.out.y _))
    have HS2 := hide (HS.out.drewN nq)
    clear HS g0 a0
    generalize w5.drewN nq = w6 at *
    have HS := HS2
    clear HS2
    go_upto_region 6 with fail
    have g0 : w6.cell? ⟨b, 0, none⟩ = some (.slice (some ⟨gx, 0, none⟩) xs.length cx) := HS.out.grid.cell 0
    have a0 : w6.cell? ⟨M + 1, 0, none⟩ = some (.int .i64 qx) := HS.out.qB.cell 0
    go_quiet ((go_at_call 20; exact Kqx.out _ HS.out.x _))
    have HS2 := hide (HS.out.drewN nq)
    clear HS g0 a0
    generalize w6.drewN nq = w7 at *
    have HS := HS2
    clear HS2
    go_upto_region 7 with fail
    have g0 : w7.cell? ⟨b, 1, none⟩ = some (.slice (some ⟨gy, 0, none⟩) ys.length cy) := HS.out.grid.cell 1
    have a0 : w7.cell? ⟨M + 1, 1, none⟩ = some (.int .i64 qy) := HS.out.qB.cell 1
    go_quiet ((go_at_call 20; exact Kqy.out _ HS.out.y _))
    have HS2 := hide (HS.out.drewN nq)
    clear HS g0 a0 Kpx Kpy Kqx Kqy
    generalize w7.drewN nq = w8 at *
    have HS := HS2
    clear HS2
    have p0 : w8.cell? ⟨M, 0, none⟩ = some (.int .i64 px) := HS.out.pB.cell 0
    have p1 : w8.cell? ⟨M, 1, none⟩ = some (.int .i64 py) := HS.out.pB.cell 1
    have q0 : w8.cell? ⟨M + 1, 0, none⟩ = some (.int .i64 qx) := HS.out.qB.cell 0
    have q1 : w8.cell? ⟨M + 1, 1, none⟩ = some (.int .i64 qy) := HS.out.qB.cell 1
    go_upto_region 8 with fail
    go_cut [110] (fun v wc => v = .bool (shB px py qx qy first last) ∧ w8 = wc)
    case first =>
      clear HS HR HX HY HIX HIY ipx ipy iqx iqy HSP HA
      by_cases hxy : px = qx ∧ py = qy
      · obtain ⟨rfl, rfl⟩ := hxy
        by_cases h1 : first = -1
        · have HV : Hid (shB px py px py first last = true) := hide (by simp [shB, h1])
          have h1b : (first == -1) = true := by simp [h1]
          clear h1
          go_wp2_with fail
          all_goals (go_meet; exact ⟨by rw [HV.out], rfl⟩)
        · have h1b : (first == -1) = false := by simp [h1]
          by_cases h2 : last = -1
          · have HV : Hid (shB px py px py first last = true) := hide (by simp [shB, h2])
            have h2b : (last == -1) = true := by simp [h2]
            clear h2 h1
            go_wp2_with fail
            all_goals (go_meet; exact ⟨by rw [HV.out], rfl⟩)
          · have h2b : (last == -1) = false := by simp [h2]
            by_cases h3 : first = last
            · have HV : Hid (shB px py px py first last = true) := hide (by simp [shB, h3])
              have h3b : (first == last) = true := by simp [h3]
              clear h1 h2 h3
              go_wp2_with fail
              all_goals (go_meet; exact ⟨by rw [HV.out], rfl⟩)
            · have HV : Hid (shB px py px py first last = false) := hide (by simp [shB, h1, h2, h3])
              have h3b : (first == last) = false := by simp [h3]
              clear h1 h2 h3
              go_wp2_with fail
              all_goals (go_meet; exact ⟨by rw [HV.out], rfl⟩)
      · have HV : Hid (shB px py qx qy first last = false) := hide (shB_no hxy)
        by_cases e1 : px = qx
        · subst e1
          have e2 : ¬ py = qy := fun e => hxy ⟨rfl, e⟩
          have e3 : (py == qy) = false := by simp [e2]
          clear hxy
          go_wp2_with fail
          all_goals (go_meet; exact ⟨by rw [HV.out], rfl⟩)
        · have e3 : (px == qx) = false := by simp [e1]
          clear hxy
          go_wp2_with fail
          all_goals (go_meet; exact ⟨by rw [HV.out], rfl⟩)
    case rest =>
      obtain ⟨rfl, rfl⟩ := hcut
      have HSh : Hid (Short (px, py) (qx, qy) first last ↔ shB px py qx qy first last = true) := hide (short_iff ..)
      generalize shB px py qx qy first last = sh at *
      cases sh with
      | true =>
        have hShort := hide (HSh.out.2 rfl)
        have HOP := hide (own_litP w8 M (px, py) (Nat.le_trans (Nat.le_of_eq HM.out) HS.out.bel.size))
        have HBP := hide (HS.out.bel.alloc (Nat.le_trans (Nat.le_of_eq HM.out) HS.out.bel.size) (.cells #[.int .i64 px, .int .i64 py] 24))
        clear HS
        go_wp2_with fail
        go_ret2
        exact ⟨some ⟨w8.heap.size, 0, none⟩, 1, 1, (fun _ => (px, py)), true, rfl, ⟨HOP.out, few1⟩, HBP.out, (HSP.out _ _).2 (.inl ⟨hShort.out, rfl, rfl⟩)⟩
      | false =>
        have hShort : Hid (¬ Short (px, py) (qx, qy) first last) := hide (fun h => by have := HSh.out.1 h; cases this)
        clear HSh p0 p1 q0 q1
        go_upto_region 10 with fail
        have z5 : w8.cell? ⟨b, 5, none⟩ = some (.slice none 0 0) := HS.out.grid.cell 5
        have hsz8 : w8.heap.size = gd + 1 := HS.out.sz
        have hOn := World.ownsRow_nil w8 (gd + 1) 61 6
        have hgb : b < gd + 1 := by omega
        go_wp2_with (at_builtin; refine wpL_append (v := .slice none 0 0) rfl rfl Try.underlying50 st_info rfl (by decide) rfl rfl (hOn.alloc _) (news_at _ _ _ _ (by omega)) rfl (by simp [Value.oneCell']) (by omega) (by omega) (by simp; omega) ?_; intro v9 w9 hown9 hgrow9; obtain ⟨A9, c9, rfl⟩ := own_form hown9; have hG9 := (HS.out.grid.alloc (.cells #[.int .i64 sx, .int .i64 sy, .int .i64 0, .int .i64 0, .int .i64 0, .int .i64 (-1)] 61)).grown hgrow9 (by simp [Value.ownBlock]); have z9 := hG9.cell 5; have zf9 := hG9.frozen 5)
        have hA9 : ∀ k, (Value.slice A9 1 c9).ownBlock = some k → gd + 1 ≤ k := fun k hk => (own_blk_ge hown9 hk).1
        have hc9 : Chg (Dg b (gd + 1)) w8 (w9.setCell ⟨b, 5, none⟩ (.slice A9 1 c9)) := (((Chg.refl (Dg b (gd + 1)) w8).alloc (.cells #[.int .i64 sx, .int .i64 sy, .int .i64 0, .int .i64 0, .int .i64 0, .int .i64 (-1)] 61)).grown hgrow9 (fun k hk => by cases hk)).setCell (p := ⟨b, 5, none⟩) (.inl (.inl rfl)) _
        have HGQ : Hid (GQ (w9.setCell ⟨b, 5, none⟩ (.slice A9 1 c9)) b (gd + 1) gd N (.slice (some ⟨gx, 0, none⟩) xs.length cx) (.slice (some ⟨gy, 0, none⟩) ys.length cy) (.slice A n c) (fun _ => false) A9 1 c9 (cl0 sx sy) none 0 0 (cl0 sx sy)) := hide
          ⟨hG9.set_ 5 _, HS.out.dne.chg hc9 (by rintro (h | h) <;> omega), by omega, by omega, hgb, by have := hc9.size; omega, World.ownsRow_nil _ _ _ _, own_setCell_low (a := ⟨b, 5, none⟩) (by rw [cl0_row]; exact hown9) hgb _, fun k hk => by simp [Value.ownBlock], fun i h1 h2 => by omega⟩
        have HGR : Hid (GR (w9.setCell ⟨b, 5, none⟩ (.slice A9 1 c9)) b (gd + 1) (some ⟨gx, 0, none⟩) (some ⟨gy, 0, none⟩) A xs.length ys.length n (ix xs) (ix ys) fs) := hide
          ⟨rdI_chg (by rw [tab_self]; exact HS.out.x) hc9 (fun ad e => by cases e; rintro (h | h) <;> simp at h <;> omega), rdI_chg (by rw [tab_self]; exact HS.out.y) hc9 (fun ad e => by cases e; rintro (h | h) <;> simp at h <;> omega),
            rdF_chg (HR.out _ HS.out.bel) hc9 (fun ad e => by have := HA.out ad e; have := HM.out; rintro (h | h) <;> omega),
            fun ad e => by cases e; rintro (h | h) <;> simp at h <;> omega, fun ad e => by cases e; rintro (h | h) <;> simp at h <;> omega, fun ad e => by have := HA.out ad e; have := HM.out; rintro (h | h) <;> omega⟩
        have HBX : Hid (Below M w (w9.setCell ⟨b, 5, none⟩ (.slice A9 1 c9))) := hide (HS.out.bel.trans (hc9.to_below (by have := HS.out.bel.size; have := HM.out; omega) (fun k hk => by rcases hk with h | h <;> omega)))
        clear z5 z9 zf9 hG9 hc9 hown9 hgrow9 HS hOn hA9
        generalize w9.setCell ⟨b, 5, none⟩ (.slice A9 1 c9) = w10 at *
        have hsx : sx < xs.length := ipx.out.1
        have hsy : sy < ys.length := ipy.out.1
        have HNe : Hid (N = 4 * xs.length * ys.length) := HN
        have hStep := hide (step_ok HGQ.out HGR.out HNe.out (by omega) (by omega) (by omega) (by omega) (by omega) HX HY.out (k := 0) (by omega) (s := ⟨sx, sy, 0, ⟨0, 0⟩, -1⟩) rfl hsx hsy (show 0 < 4 by decide) (show (0 : Int) ≤ 0 ∧ (0 : Int) ≤ 1000000000 by decide) (show (0 : Int) ≤ 0 ∧ (0 : Int) ≤ 1000000000000000 by decide) first)
        refine hStep.out.mono ?_
        rintro e11 w11 ⟨rfl, qA, qn, qc, f, hg11, hs11, hc11⟩
        have HSI : Hid (SI (gE (ix xs) (ix ys) xs.length ys.length n fs) first last xs.length ys.length sx sy tx ty N (fun _ => false) 1 (cl0 sx sy) qn f) := hide (SI.start rfl hs11)
        have HG11 := hide hg11
        have HR11 := hide (HGR.out.chg hc11)
        have hwb : gd + 1 ≤ w10.heap.size := HGQ.out.bs
        have HB11 := hide (HBX.out.trans (hc11.to_below (by omega) (fun k hk => by rcases hk with h | h <;> omega)))
        clear hStep hg11 hs11 hc11 HGQ HGR HBX
        have hcn0 : cntB (fun _ => false) N ≤ N := cntB_le _ _
        go_wp2_with fail
        go_loopg [10, 11, 21, 22] (5 * N + qn) (fun mq _ _ _ _ wr => ∃ (m : Nat) (dn : Nat → Bool) (cl : Nat → St) (cA : Option Addr) (cc : Nat) (qA : Option Addr) (qn qc : Nat) (f : Nat → St), mq = 5 * (N + 1 - m) + qn ∧ 1 ≤ m ∧ m ≤ N + 1 ∧
          Hid (GQ wr b (gd + 1) gd N (.slice (some ⟨gx, 0, none⟩) xs.length cx) (.slice (some ⟨gy, 0, none⟩) ys.length cy) (.slice A n c) dn cA m cc cl qA qn qc f) ∧
          Hid (GR wr b (gd + 1) (some ⟨gx, 0, none⟩) (some ⟨gy, 0, none⟩) A xs.length ys.length n (ix xs) (ix ys) fs) ∧
          Hid (SI (gE (ix xs) (ix ys) xs.length ys.length n fs) first last xs.length ys.length sx sy tx ty N dn m cl qn f) ∧ Hid (Below M w wr))
        case atStart => exact ⟨1, _, _, _, _, _, qn, _, _, by omega, Nat.le_refl _, by omega, HG11, HR11, HSI, HB11⟩
        case round =>
          clear HSI HG11 HR11 HB11 hwb
          obtain ⟨wo, rfl⟩ : ∃ wx : World, wx = wr := ⟨_, rfl⟩
          obtain ⟨m, dn, cl, cA, cc, qA, qn, qc, f, rfl, hm1, hm2, HG, HGR, HSI, HB⟩ := hrel
          have z4 : wo.cell? ⟨b, 4, none⟩ = some (.slice qA qn qc) := HG.out.grid.cell 4
          cases qn with
          | zero =>
            have HL := hide HSI.out.lost
            have HOn := hide (World.ownsRow_nil wo M 24 2)
            clear HG HGR HSI
            go_wp2_with fail
            go_ret2
            exact ⟨none, 0, 0, (fun _ => (0, 0)), false, rfl, ⟨HOn.out, Nat.zero_le _⟩, HB.out, (HSP.out _ _).2 (.inr ⟨hShort.out, .inr ⟨rfl, HL.out⟩⟩)⟩
          | succ k =>
            have kq : (0 : Int) < ((k + 1 : Nat) : Int) := by omega
            have kq2 : decide (((k + 1 : Nat) : Int) > 0) = true := decide_eq_true kq
            have hkq : k ≤ 10000000 := by have := HSI.out.q; omega
            have hpop := hide (pop_ok HG.out.grid rfl rfl HG.out.bb HG.out.bs hkq HG.out.que HG.out.hp)
            have Hbx : Hid (stC (f 0) = #[.int .i64 ((f 0).x : Nat), .int .i64 ((f 0).y : Nat), .int .i64 ((f 0).d : Nat), .int .i64 (f 0).co.b, .int .i64 (f 0).co.l, .int .i64 (f 0).back]) := hide rfl
            rw [Hbx.out] at hpop
            have hmem0 : Mem (k + 1) f (f 0) := ⟨0, by omega, rfl⟩
            have hrg := q_range HSI.out.dj hmem0
            have hco := hide (q_cost HX HY.out HSI.out.dj hsx hsy hmem0)
            have Hhp := hide HG.out.hp
            go_wp2_with fail
            refine hpop.out.mono ?_
            rintro e3 w3 ⟨rfl, f1, hgp, hop, hhp, hme1, hme2, hcp⟩
            have hG3 := HG.out.queued hgp hop hhp hcp (fun j hj => .inl (by cases qA with
              | none => simp [Value.ownBlock] at hj
              | some a => simpa [Value.ownBlock] using hj.symm))
            have hcd : Chg (Dg b (gd + 1)) wo w3 := hcp.mono (two_dg HG.out.que)
            have hMo : M ≤ wo.heap.size := Nat.le_trans (Nat.le_of_eq HM.out) HB.out.size
            have hR3 := HGR.out.chg hcd
            have hB3 := HB.out.trans (hcd.to_below hMo (fun k hk => by rcases hk with h | h <;> omega))
            have Hm1 := hide hme1
            have Hm2 := hide hme2
            clear hpop hgp hop hhp hme1 hme2 hcp hcd HG HGR HB z4
            obtain ⟨sX, HsX⟩ : ∃ z : Nat, Hid (z = (f 0).x) := ⟨_, rfl⟩
            obtain ⟨sY, HsY⟩ : ∃ z : Nat, Hid (z = (f 0).y) := ⟨_, rfl⟩
            obtain ⟨sD, HsD⟩ : ∃ z : Nat, Hid (z = (f 0).d) := ⟨_, rfl⟩
            obtain ⟨sB, HsB⟩ : ∃ z : Int, Hid (z = (f 0).co.b) := ⟨_, rfl⟩
            obtain ⟨sL, HsL⟩ : ∃ z : Int, Hid (z = (f 0).co.l) := ⟨_, rfl⟩
            obtain ⟨sK, HsK⟩ : ∃ z : Int, Hid (z = (f 0).back) := ⟨_, rfl⟩
            rw [← HsX.out, ← HsY.out, ← HsD.out] at hrg
            rw [← HsX.out, ← HsY.out, ← HsD.out, ← HsB.out, ← HsL.out, ← HsK.out] at Hbx ⊢
            have HG4 := hide (hG3.alloc (.cells #[.int .i64 sX, .int .i64 sY, .int .i64 sD, .int .i64 sB, .int .i64 sL, .int .i64 sK] 61))
            have HR4 := hide (hR3.below ((Below.refl w3.heap.size w3).alloc (Nat.le_refl _) (.cells #[.int .i64 sX, .int .i64 sY, .int .i64 sD, .int .i64 sB, .int .i64 sL, .int .i64 sK] 61)))
            have HB4 := hide (hB3.alloc (by have := hB3.size; have := HM.out; omega) (.cells #[.int .i64 sX, .int .i64 sY, .int .i64 sD, .int .i64 sB, .int .i64 sL, .int .i64 sK] 61))
            have HS4 := hide (Blk.new w3 61 #[.int .i64 sX, .int .i64 sY, .int .i64 sD, .int .i64 sB, .int .i64 sL, .int .i64 sK])
            have hgb3 : gd + 1 ≤ w3.heap.size := hG3.bs
            have hclo3 : ∀ k, (Value.slice cA m cc).ownBlock = some k → k < w3.heap.size := fun k hk => (own_blk_ge hG3.clo hk).2
            clear hG3 hR3 hB3
            go_upto_region 14 with fail
            obtain ⟨g, Hg⟩ : ∃ g, Hid (g = w3.heap.size) := ⟨_, rfl⟩
            rw [← Hg.out] at HS4
            rw [← Hg.out]
            generalize w3.alloc (.cells #[.int .i64 sX, .int .i64 sY, .int .i64 sD, .int .i64 sB, .int .i64 sL, .int .i64 sK] 61) = w4 at *
            have y0 : w4.cell? ⟨g, 0, none⟩ = some (.int .i64 sX) := HS4.out.cell 0
            have y1 : w4.cell? ⟨g, 1, none⟩ = some (.int .i64 sY) := HS4.out.cell 1
            have y2 : w4.cell? ⟨g, 2, none⟩ = some (.int .i64 sD) := HS4.out.cell 2
            have HIx := hide (index_ok (w := w4) HG4.out.grid rfl hrg.1 (show xs.length ≤ 1000 by omega) (show sY < 1000 by omega) hrg.2.2)
            have hjl : ixN xs.length sX sY sD < N := by rw [HN.out]; exact ixN_lt hrg.1 hrg.2.1 hrg.2.2
            obtain ⟨j, Hj⟩ : ∃ j, Hid (j = ixN xs.length sX sY sD) := ⟨_, rfl⟩
            rw [← Hj.out] at HIx hjl
            go_wp2_with fail
            refine HIx.out.mono ?_
            rintro e5 w5 ⟨rfl, rfl⟩
            have z3 : w5.cell? ⟨b, 3, none⟩ = some (.slice (some ⟨gd, 0, none⟩) N N) := HG4.out.grid.cell 3
            have zd : w5.cell? ⟨gd, j, none⟩ = some (.bool (dn j)) := HG4.out.dne.cell hjl
            have zf := HG4.out.dne.frozen j
            have j1 : (j : Int) < (N : Int) := by omega
            have j2 : (0 : Int) ≤ (j : Int) := by omega
            cases hdj : dn j with
            | true =>
              rw [hdj] at zd
              have HSI2 := hide (HSI.out.drop (by
                unfold dn3
                rw [← HsX.out, ← HsY.out, ← HsD.out, ← Hj.out, hdj, decide_eq_true (show sX < xs.length ∧ sY < ys.length ∧ sD < 4 from hrg)]
                rfl) Hm1.out Hm2.out)
              clear hdj HSI HIx y0 y1 y2 HS4 zf
              go_wp2_with fail
              go_roundg (5 * (N + 1 - m) + k)
              case measure => omega
              case rel => exact ⟨m, dn, cl, cA, cc, qA, k, qc, f1, rfl, hm1, hm2, HG4, HR4, HSI2, HB4⟩
            | false =>
              rw [hdj] at zd
              have Hdj := hide hdj
              have HG6 := hide (HG4.out.setDone j)
              have hcd6 : Chg (Is gd) w5 (w5.setCell ⟨gd, j, none⟩ (.bool true)) := (Chg.refl (Is gd) w5).setCell (p := ⟨gd, j, none⟩) (.inl rfl) _
              have hgM : M ≤ gd := by omega
              have HB6 := hide (HB4.out.setCell (p := ⟨gd, j, none⟩) hgM (.bool true))
              have hgne : g ≠ gd := by have h1 := Hg.out; omega
              have HS6 := hide (HS4.out.far (p := ⟨gd, j, none⟩) hgne (.bool true))
              clear hdj HIx
              go_upto_region 17 with fail
              have HR6 : Hid (GR (w5.setCell ⟨gd, j, none⟩ (.bool true)) b (gd + 1) (some ⟨gx, 0, none⟩) (some ⟨gy, 0, none⟩) A xs.length ys.length n (ix xs) (ix ys) fs) := hide ⟨rdI_chg HR4.out.xs hcd6 (fun ad e => by cases e; show ¬ gx = gd; omega), rdI_chg HR4.out.ys hcd6 (fun ad e => by cases e; show ¬ gy = gd; omega), rdF_chg HR4.out.l hcd6 (fun ad e => by have h1 := HA.out ad e; have h2 := HM.out; show ¬ ad.block = gd; omega), HR4.out.xd, HR4.out.yd, HR4.out.ld⟩
              clear hcd6
              clear y0 y1 y2 HS4 HG4 HR4 HB4 z3 zd zf
              generalize w5.setCell ⟨gd, j, none⟩ (.bool true) = w6 at *
              have HG7 := HG6
              obtain ⟨is0, is1, is2, is3, is4⟩ := info_parts st_info
              have z5 : w6.cell? ⟨b, 5, none⟩ = some (.slice cA m cc) := HG7.out.grid.cell 5
              have s0 : w6.cell? ⟨g, 0, none⟩ = some (.int .i64 sX) := HS6.out.cell 0
              have s1 : w6.cell? ⟨g, 1, none⟩ = some (.int .i64 sY) := HS6.out.cell 1
              have s2 : w6.cell? ⟨g, 2, none⟩ = some (.int .i64 sD) := HS6.out.cell 2
              have s3 : w6.cell? ⟨g, 3, none⟩ = some (.int .i64 sB) := HS6.out.cell 3
              have s4 : w6.cell? ⟨g, 4, none⟩ = some (.int .i64 sL) := HS6.out.cell 4
              have s5 : w6.cell? ⟨g, 5, none⟩ = some (.int .i64 sK) := HS6.out.cell 5
              have nb : some b ≠ (Value.slice cA m cc).ownBlock := own_not_low HG7.out.clo HG7.out.bb
              have ng : some g ≠ (Value.slice cA m cc).ownBlock := fun e => by have := hclo3 g e.symm; have := Hg.out; omega
              have bb6 : b < w6.heap.size := HG7.out.grid.lt
              have bg6 : g < w6.heap.size := HS6.out.lt
              have bd6 : gd + 1 ≤ w6.heap.size := HG7.out.bs
              refine wp_region_sink (S := fun w' : World => w'.cell? ⟨b, 5, none⟩ = some (.slice cA m cc) ∧ w'.cell? ⟨g, 0, none⟩ = some (.int .i64 sX) ∧ w'.cell? ⟨g, 1, none⟩ = some (.int .i64 sY) ∧ w'.cell? ⟨g, 2, none⟩ = some (.int .i64 sD) ∧ w'.cell? ⟨g, 3, none⟩ = some (.int .i64 sB) ∧ w'.cell? ⟨g, 4, none⟩ = some (.int .i64 sL) ∧ w'.cell? ⟨g, 5, none⟩ = some (.int .i64 sK)) 10 (by kernel_rfl) (by kernel_rfl) (by kernel_rfl) (by kernel_rfl) ?hSk (fun hHeld => ?_)
              case hSk => exact ⟨z5, s0, s1, s2, s3, s4, s5⟩
              simp only [List.take_succ_cons, List.take_zero]
              refine wpAnyH_take (i := 0) (v := ?vkn0) rfl (by kernel_rfl) (by kernel_rfl) (by kernel_rfl) (fun _ _ _ h => h) (Or.inl ⟨by rfl, ?hykn0⟩) (by assumption) ?_
              case hykn0 => (intro w hSw; (try dsimp only at hSw); go_simp; try with_reducible rfl)
              try simp only [Act.put, List.getElem_toArray, List.getElem_cons_zero, List.getElem_cons_succ, List.setIfInBounds_toArray, List.set_cons_zero, List.set_cons_succ]
              refine wpAnyH_take (i := 1) (v := ?vkn1) rfl (by kernel_rfl) (by kernel_rfl) (by kernel_rfl) (fun _ _ _ h => h) (Or.inl ⟨by rfl, ?hykn1⟩) (by assumption) ?_
              case hykn1 => (intro w hSw; (try dsimp only at hSw); go_simp; try with_reducible rfl)
              try simp only [Act.put, List.getElem_toArray, List.getElem_cons_zero, List.getElem_cons_succ, List.setIfInBounds_toArray, List.set_cons_zero, List.set_cons_succ]
              refine wpAnyH_take (i := 2) (v := ?vkn2) rfl (by kernel_rfl) (by kernel_rfl) (by kernel_rfl) (fun _ _ _ h => h) (Or.inl ⟨by rfl, ?hykn2⟩) (by assumption) ?_
              case hykn2 => (intro w hSw; (try dsimp only at hSw); go_simp; try with_reducible rfl)
              try simp only [Act.put, List.getElem_toArray, List.getElem_cons_zero, List.getElem_cons_succ, List.setIfInBounds_toArray, List.set_cons_zero, List.set_cons_succ]
              refine wpAnyH_take (i := 3) (v := ?vkn3) rfl (by kernel_rfl) (by kernel_rfl) (by kernel_rfl) (fun _ _ _ h => h) (Or.inl ⟨by rfl, ?hykn3⟩) (by assumption) ?_
              case hykn3 => (intro w hSw; (try dsimp only at hSw); go_simp; try with_reducible rfl)
              try simp only [Act.put, List.getElem_toArray, List.getElem_cons_zero, List.getElem_cons_succ, List.setIfInBounds_toArray, List.set_cons_zero, List.set_cons_succ]
              refine wpAnyH_take (i := 4) (v := ?vkn4) rfl (by kernel_rfl) (by kernel_rfl) (by kernel_rfl) (fun _ _ _ h => h) (Or.inl ⟨by rfl, ?hykn4⟩) (by assumption) ?_
              case hykn4 => (intro w hSw; (try dsimp only at hSw); go_simp; try with_reducible rfl)
              try simp only [Act.put, List.getElem_toArray, List.getElem_cons_zero, List.getElem_cons_succ, List.setIfInBounds_toArray, List.set_cons_zero, List.set_cons_succ]
              refine wpAnyH_take (i := 5) (v := ?vkn5) rfl (by kernel_rfl) (by kernel_rfl) (by kernel_rfl) (fun _ _ _ h => h) (Or.inl ⟨by rfl, ?hykn5⟩) (by assumption) ?_
              case hykn5 => (intro w hSw; (try dsimp only at hSw); go_simp; try with_reducible rfl)
              try simp only [Act.put, List.getElem_toArray, List.getElem_cons_zero, List.getElem_cons_succ, List.setIfInBounds_toArray, List.set_cons_zero, List.set_cons_succ]
              refine wpAnyH_ready (rs := [6]) (by kernel_rfl) (by simp) (AllReadyH.cons rfl (fun K hK => ?_) AllReadyH.nil)
              go_simp
              refine hK.out _ _ ?hkkn6 (fun hHeld => ?_)
              case hkkn6 => go_keep
              clear hK K
              try simp only [Act.put, List.getElem_toArray, List.getElem_cons_zero, List.getElem_cons_succ, List.setIfInBounds_toArray, List.set_cons_zero, List.set_cons_succ]
              refine wpAnyH_ready (rs := [7]) (by kernel_rfl) (by simp) (AllReadyH.cons rfl (fun K hK => ?_) AllReadyH.nil)
              refine step_append_lies _ (by rfl) _ _ _ (by rfl) (gd + 1) 61 is0 _ 6 48 Try.underlying50 is1 is2 is3 is4 rfl (by omega) (.slice cA m cc) m (rowF m 6 (stF cl)) (by rfl) (World.ownsRow.alloc (own_drewN HG7.out.clo 1) _) ⟨w6.heap.size, 0, none⟩ 1 1 [.int .i64 sX, .int .i64 sY, .int .i64 sD, .int .i64 sB, .int .i64 sL, .int .i64 sK] (by rfl) (by rfl) (World.news_of_block (cs := #[.int .i64 sX, .int .i64 sY, .int .i64 sD, .int .i64 sB, .int .i64 sL, .int .i64 sK]) (t := 61) (fr := (0, 0)) (by exact heap_alloc_new w6.drew _)) (by simp [Value.oneCell']) (by omega) (by simp only [maxLen]; omega) (by omega) (by simp; omega) (w6.heap.size + 1) (by simp) ?_
              intro gA cap w7 hown7 hgrow hat hlt
              have hgr7 := Blk.grown (Blk.alloc (HG7.out.grid.drewN 1) (.cells #[.int .i64 sX, .int .i64 sY, .int .i64 sD, .int .i64 sB, .int .i64 sL, .int .i64 sK] 61)) hgrow nb
              have zf7 := hgr7.frozen 5
              have zc7 := hgr7.cell 5
              refine hK.out _ _ ?hkkn7 (fun hHeld => ?_)
              case hkkn7 => (refine ⟨?_, ?_, ?_, ?_, ?_, ?_, ?_⟩ <;> first | (rw [hgrow.cell_far _ (by simp; omega) nb]; first | exact hHeld.1 | assumption) | (rw [hgrow.cell_far _ (by simp; omega) ng]; first | exact hHeld.2.1 | exact hHeld.2.2.1 | exact hHeld.2.2.2.1 | exact hHeld.2.2.2.2.1 | exact hHeld.2.2.2.2.2.1 | exact hHeld.2.2.2.2.2.2))
              clear hK K
              try simp only [Act.put, List.getElem_toArray, List.getElem_cons_zero, List.getElem_cons_succ, List.setIfInBounds_toArray, List.set_cons_zero, List.set_cons_succ]
              refine wpAnyH_take (i := 8) (v := ?vkn8) rfl (by kernel_rfl) (by kernel_rfl) (by kernel_rfl) (fun _ _ _ h => h) (Or.inl ⟨by rfl, ?hykn8⟩) (by assumption) ?_
              case hykn8 => (intro w hSw; (try dsimp only at hSw); go_simp; try with_reducible rfl)
              try simp only [Act.put, List.getElem_toArray, List.getElem_cons_zero, List.getElem_cons_succ, List.setIfInBounds_toArray, List.set_cons_zero, List.set_cons_succ]
              refine wpAnyH_take (i := 9) (v := ?vkn9) rfl (by kernel_rfl) (by kernel_rfl) (by kernel_rfl) (fun _ _ _ h => h) (Or.inl ⟨by rfl, ?hykn9⟩) (by assumption) ?_
              case hykn9 => (intro w hSw; (try dsimp only at hSw); go_simp; try with_reducible rfl)
              try simp only [Act.put, List.getElem_toArray, List.getElem_cons_zero, List.getElem_cons_succ, List.setIfInBounds_toArray, List.set_cons_zero, List.set_cons_succ]
              refine wpAnyH_done (by kernel_rfl) ?_ _
              refine sink_run rfl rfl ?_
              go_simp
              have h1 : Below w6.heap.size w6 (w6.drew.alloc (.cells #[.int .i64 sX, .int .i64 sY, .int .i64 sD, .int .i64 sB, .int .i64 sL, .int .i64 sK] 61)) := (below_drewN (Below.refl _ _) 1).alloc (Nat.le_refl _) _
              have hown8 : w7.ownsRow (gd + 1) 61 6 (.slice (some ⟨gA, 0, none⟩) (m + 1) cap) (m + 1) (rowF (m + 1) 6 (stF (upd cl m (f 0)))) := by
                rw [stF_push2, Hbx.out]
                exact hown7
              have HG8 := hide (HG7.out.settled (f 0) h1 hown8 hgrow (fun q hq => by
                have hq2 : gA = q := by simpa [Value.ownBlock] using hq
                subst hq2
                exact hat.imp_right (fun e => by omega)))
              have hcl6 : ∀ q, (Value.slice cA m cc).ownBlock = some q → gd + 1 ≤ q := fun q hq => (own_blk_ge HG7.out.clo hq).1
              have hc8 : Chg (Dg b (gd + 1)) w6 (w7.setCell ⟨b, 5, none⟩ (.slice (some ⟨gA, 0, none⟩) (m + 1) cap)) := ((Chg.of_below h1).grown hgrow (fun q hq => .inl (.inr (hcl6 q hq)))).setCell (p := ⟨b, 5, none⟩) (.inl (.inl rfl)) _
              have HR8 := hide (HR6.out.chg hc8)
              have hM6 : M ≤ w6.heap.size := by omega
              have HB8 := hide (HB6.out.trans (hc8.to_below hM6 (fun q hq => by rcases hq with h | h <;> omega)))
              have hgb8 : g ≠ b := by have h9 := Hg.out; omega
              have HS8 := hide ((Blk.grown (HS6.out.below h1 bg6) hgrow ng).far (p := ⟨b, 5, none⟩) hgb8 (.slice (some ⟨gA, 0, none⟩) (m + 1) cap))
              clear hown7 hown8 hgrow hat hlt hgr7 zf7 zc7 hc8 h1 hcl6 HG6 HG7 HR6 HB6 HS6 z5 s0 s1 s2 s3 s4 s5 nb ng bb6 bg6 bd6 is1 is2 is3 is4 hHeld
              generalize w7.setCell ⟨b, 5, none⟩ (.slice (some ⟨gA, 0, none⟩) (m + 1) cap) = w8 at *
              have y0 : w8.cell? ⟨g, 0, none⟩ = some (.int .i64 sX) := HS8.out.cell 0
              have y1 : w8.cell? ⟨g, 1, none⟩ = some (.int .i64 sY) := HS8.out.cell 1
              have y2 : w8.cell? ⟨g, 2, none⟩ = some (.int .i64 sD) := HS8.out.cell 2
              go_upto_region 18 with fail
              go_cut [188] (fun v wc => v = .bool (accB last tx ty sX sY sD) ∧ w8 = wc)
              case first =>
                have HV0 := hide (show accB last tx ty sX sY sD = (((sX : Int) == (tx : Int)) && ((sY : Int) == (ty : Int)) && ((last == -1) || (last == (sD : Int)))) from rfl)
                clear HG8 HR8 HB8 HS8 HSI Hm1 Hm2 Hhp HX HY HSP
                cases h1 : ((sX : Int) == (tx : Int)) with
                | false =>
                  have HV : Hid (accB last tx ty sX sY sD = false) := hide (by rw [HV0.out, h1]; rfl)
                  go_wp2_with fail
                  all_goals (go_meet; exact ⟨by rw [HV.out], rfl⟩)
                | true =>
                  cases h2 : ((sY : Int) == (ty : Int)) with
                  | false =>
                    have HV : Hid (accB last tx ty sX sY sD = false) := hide (by rw [HV0.out, h1, h2]; rfl)
                    go_wp2_with fail
                    all_goals (go_meet; exact ⟨by rw [HV.out], rfl⟩)
                  | true =>
                    cases h3 : (last == -1) with
                    | true =>
                      have HV : Hid (accB last tx ty sX sY sD = true) := hide (by rw [HV0.out, h1, h2, h3]; rfl)
                      go_wp2_with fail
                      all_goals (go_meet; exact ⟨by rw [HV.out], rfl⟩)
                    | false =>
                      cases h4 : (last == (sD : Int)) with
                      | true =>
                        have HV : Hid (accB last tx ty sX sY sD = true) := hide (by rw [HV0.out, h1, h2, h3, h4]; rfl)
                        go_wp2_with fail
                        all_goals (go_meet; exact ⟨by rw [HV.out], rfl⟩)
                      | false =>
                        have HV : Hid (accB last tx ty sX sY sD = false) := hide (by rw [HV0.out, h1, h2, h3, h4]; rfl)
                        go_wp2_with fail
                        all_goals (go_meet; exact ⟨by rw [HV.out], rfl⟩)
              case rest =>
                obtain ⟨rfl, rfl⟩ := hcut
                have Hacc : Hid (acc last tx ty (f 0) ↔ accB last tx ty sX sY sD = true) := hide (by rw [HsX.out, HsY.out, HsD.out]; exact acc_iff ..)
                generalize accB last tx ty sX sY sD = ac at *
                have hupd1 : ∀ i, i < m → upd cl m (f 0) i = cl i := fun i hi => upd_other _ _ (by omega)
                have hupd2 : upd cl m (f 0) m = f 0 := upd_same _ _ _
                have z5 : w8.cell? ⟨b, 5, none⟩ = some (.slice (some ⟨gA, 0, none⟩) (m + 1) cap) := HG8.out.grid.cell 5
                have hm3 : m ≤ 61505 := by omega
                have u1 : ((m + 1 : Nat) : Int) - 1 = (m : Int) := by omega
                have u2 : IntKind.i64.wrap (((m + 1 : Nat) : Int) - 1) = (m : Int) := by rw [u1]; exact IntWalk.i64_in _ (by omega)
                cases ac with
                | true =>
                  have HFo := hide (HSI.out.found Hhp.out (Hacc.out.2 rfl) hupd1 hupd2)
                  have Hway := hide (way_ok HG8.out HR8.out (fun i hi => by
                    by_cases e : i = m
                    · subst e
                      rw [hupd2]
                      have := q_range HSI.out.dj ⟨0, by omega, rfl⟩
                      exact ⟨this.1, this.2.1⟩
                    · rw [hupd1 i (by omega)]
                      have := cl_range HSI.out.dj hsx hsy (show i < m by omega)
                      exact ⟨this.1, this.2.1⟩) (fun i hi => by
                    by_cases e : i = m
                    · subst e
                      rw [hupd2]
                      obtain ⟨q, hq1, hq2, _⟩ := HSI.out.dj.qok (f 0) ⟨0, by omega, rfl⟩
                      omega
                    · rw [hupd1 i (by omega)]
                      rcases Nat.eq_zero_or_pos i with h0 | h0
                      · subst h0
                        rw [HSI.out.dj.st]
                        simp
                      · obtain ⟨q, hq1, hq2, _⟩ := HSI.out.dj.cok i h0 (by omega)
                        omega) (by omega) (k := m) (by omega))
                  have HB9 := hide HB8.out
                  clear HG8 HR8 HS8 HSI y0 y1 y2 hupd1 hupd2 Hacc HB8
                  go_wp2_with fail
                  refine Hway.out.mono ?_
                  rintro e9 w9 ⟨A9, n9, c9, Q, rfl, hown9, hl9, hb9⟩
                  have hM8 : M ≤ w8.heap.size := Nat.le_trans (Nat.le_of_eq HM.out) HB9.out.size
                  have HO9 := hide (ownsRow_less hown9 hM8)
                  have HBx := hide (HB9.out.trans (hb9.mono hM8))
                  have Hn9 := hide (short_few hl9 hm3)
                  rw [← hl9] at HFo
                  clear Hway hown9 hl9 hb9 HB9
                  go_wp2_with fail
                  go_ret2
                  exact ⟨A9, n9, c9, Q, true, rfl, ⟨HO9.out, Hn9.out⟩, HBx.out, (HSP.out _ _).2 (.inr ⟨hShort.out, .inl ⟨rfl, HFo.out⟩⟩)⟩
                | false =>
                  have hna : ¬ acc last tx ty (f 0) := fun h => by have := Hacc.out.1 h; cases this
                  have Hna := hide hna
                  have hqk : k ≤ 9000000 := by have := HSI.out.q; omega
                  have hcb := hco.out
                  have Hst := hide (step_ok HG8.out HR8.out HN.out (by omega) (by omega) (by omega) hqk (by omega) HX HY.out (k := m) (by omega) hupd2 (by rw [← HsX.out]; exact hrg.1) (by rw [← HsY.out]; exact hrg.2.1) (by rw [← HsD.out]; exact hrg.2.2) (by omega) (by omega) first)
                  have Hu1 := hide hupd1
                  have Hu2 := hide hupd2
                  have hjE : Hid (j = ixN xs.length (f 0).x (f 0).y (f 0).d) := hide (by rw [Hj.out, HsX.out, HsY.out, HsD.out])
                  have hsz8 : gd + 1 ≤ w8.heap.size := HG8.out.bs
                  clear HG8 HS8 y0 y1 y2 hupd1 hupd2 Hacc hna hcb
                  go_wp2_with fail
                  refine Hst.out.mono ?_
                  rintro e9 w9 ⟨rfl, qA9, qn9, qc9, f9, hg9, hs9, hc9⟩
                  have HSI9 := hide (HSI.out.settle HN.out Hhp.out (by rw [← hjE.out]; exact Hdj.out) Hna.out Hm1.out Hm2.out Hu1.out Hu2.out (by rw [← hjE.out]; exact hs9))
                  rw [← hjE.out] at HSI9
                  have hm9 : m + 1 ≤ N + 1 := by
                    have h1 := HSI9.out.cnt
                    have h2 := cntB_le (upd dn j true) N
                    omega
                  have hq9 : qn9 ≤ k + 4 := hs9.le
                  have HG9 := hide hg9
                  have HR9 := hide (HR8.out.chg hc9)
                  have HB9 := hide (HB8.out.trans (hc9.to_below (by omega) (fun q hq => by rcases hq with h | h <;> omega)))
                  clear Hst hg9 hs9 hc9 HR8 HB8 HSI Hhp
                  go_wp2_with fail
                  go_roundg (5 * (N + 1 - (m + 1)) + qn9)
                  case measure => omega
                  case rel => exact ⟨m + 1, upd dn j true, upd cl m (f 0), some ⟨gA, 0, none⟩, cap, qA9, qn9, qc9, f9, rfl, by omega, hm9, HG9, HR9, HSI9, HB9⟩
end Go.Proofs.Ytegmokdhfmgdgaa.Rt
