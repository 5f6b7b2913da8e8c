/- The contract of lines. -/
import Derived.Test.YtegmokdhfmgdgaaRtSort
import Derived.Test.YtegmokdhfmgdgaaRtStepPlain
namespace Go.Proofs.Ytegmokdhfmgdgaa.Rt
open Go.RowKit Go.Frm Go.Frm.Rt

theorem int_info : (Try.prog.info? 3).map (fun i => (i.zero, i.size, i.bytes)) = some (some (.int .i64 0), 1, 8) := by kernel_rfl
theorem own_grown {w w' : World} {base : Nat} {e : TypeId} {size n : Nat} {v : Value} {xs : List Value} {row : Option Nat} (h : w.ownsRow base e size v n xs) (hg : w.grownBy w' row) (hne : ∀ k, v.ownBlock = some k → row ≠ some k) : w'.ownsRow base e size v n xs := by
  refine ⟨h.1, ?_⟩
  rcases h.2 with h2 | ⟨g1, cap, cur, h1, h2, h3, h4⟩
  · exact .inl h2
  · refine .inr ⟨g1, cap, cur, h1, h2, (hg.block g1 (Array.getElem?_eq_some_iff.1 h3).1 (fun e => hne g1 (by subst h1; simp [Value.ownBlock]) e.symm)).trans h3, h4⟩
theorem own_lit (w : World) (base : Nat) (e : TypeId) (xs : List Int) (n : Nat) (hn : xs.length = n) (hb : base ≤ w.heap.size) (hm : n ≤ maxLen) : (w.alloc (.cells (xs.map (Value.int .i64)).toArray e)).ownsRow base e 1 (.slice (some ⟨w.heap.size, 0, none⟩) n n) n (xs.map (Value.int .i64)) := by
  subst hn
  refine ⟨by simp, .inr ⟨w.heap.size, xs.length, (xs.map (Value.int .i64)).toArray, rfl, hb, heap_alloc_new w _, Nat.le_refl _, hm, by simp, ?_⟩⟩
  rw [List.take_of_length_le (by simp)]
/-- two rows of coordinates -/
structure LW (w0 wr : World) (M gx cx gy cy n : Nat) (lx ly : List Int) : Prop where
  ox : wr.ownsRow M 3 1 (.slice (some ⟨gx, 0, none⟩) n cx) n (lx.map (Value.int .i64))
  oy : wr.ownsRow M 3 1 (.slice (some ⟨gy, 0, none⟩) n cy) n (ly.map (Value.int .i64))
  ne : gx ≠ gy
  bel : Below M w0 wr
section
variable {w0 w1 : World} {M gx cx gy cy n g : Nat} {lx ly : List Int} {x0 y0 x1 y1 : Int}
theorem LW.alloc (h : LW w0 w1 M gx cx gy cy n lx ly) (hM : M ≤ w1.heap.size) (o : Obj) : LW w0 (w1.alloc o) M gx cx gy cy n lx ly := ⟨h.ox.alloc o, h.oy.alloc o, h.ne, h.bel.alloc hM o⟩
theorem ne_own {a b : Nat} {n c : Nat} (h : a ≠ b) : ∀ k, (Value.slice (some ⟨a, 0, none⟩) n c).ownBlock = some k → (some b : Option Nat) ≠ some k := fun k hk e => by
  simp [Value.ownBlock] at hk
  injection e with e
  omega
end
theorem news0 {w : World} {g : Nat} {o : Obj} (h : w.heap.size = g + 1) : (w.drew.alloc o).heap[g + 1]? = some o := by
  have e := heap_alloc_new w.drew o
  rw [show w.drew.heap.size = w.heap.size from rfl, h] at e
  exact e
theorem news1 {w : World} {g : Nat} {o o' : Obj} (h : w.heap.size = g + 1) : ((w.drew.alloc o).alloc o').heap[g + 1]? = some o :=
  (Below.heap_alloc _ _ _ (by rw [hsz_alloc]; show g + 1 < w.heap.size + 1; omega)).trans (news0 h)
theorem news2 {w : World} {g : Nat} {o o' : Obj} (h : w.heap.size = g + 1) : ((w.drew.alloc o').alloc o).heap[g + 2]? = some o := by
  have e := heap_alloc_new (w.drew.alloc o') o
  rw [hsz_alloc, show w.drew.heap.size = w.heap.size from rfl, h] at e
  exact e
def frP (fs : Nat → Fr) (i : Nat) : List Int := [(fs i).x0, (fs i).x1]
def frQ (fs : Nat → Fr) (i : Nat) : List Int := [(fs i).y0, (fs i).y1]
/-- the coordinates of the ends and of the edges -/
def crd (a b : Int) (p : Nat → List Int) (n : Nat) : List Int := [a, b] ++ (List.range n).flatMap p
theorem crd_succ (a b : Int) (p : Nat → List Int) (n : Nat) : crd a b p (n + 1) = crd a b p n ++ p n := by unfold crd; rw [List.range_succ, List.flatMap_append, ← List.append_assoc]; simp
theorem crd_len (a b : Int) (fs : Nat → Fr) : ∀ n, (crd a b (frP fs) n).length = 2 + 2 * n ∧ (crd a b (frQ fs) n).length = 2 + 2 * n
  | 0 => ⟨rfl, rfl⟩
  | n + 1 => by
    have h := crd_len a b fs n
    rw [crd_succ, crd_succ, List.length_append, List.length_append, h.1, h.2]
    exact ⟨rfl, rfl⟩
/-- with a ring round all, in order -/
def axis (l : List Int) : List Int := Lib.compact (srt (l ++ [Lib.minOf l - 100, Lib.maxOf l + 100]))
theorem foldl_min (l : List Int) : ∀ a : Int, l.foldl min a ≤ a ∧ (∀ x, x ∈ l → l.foldl min a ≤ x) ∧ (l.foldl min a = a ∨ l.foldl min a ∈ l) := by
  induction l with
  | nil => intro a; exact ⟨Int.le_refl _, fun x h => (by cases h), .inl rfl⟩
  | cons y l ih =>
    intro a
    obtain ⟨h1, h2, h3⟩ := ih (min a y)
    show l.foldl min (min a y) ≤ a ∧ _ ∧ (l.foldl min (min a y) = a ∨ _)
    refine ⟨by omega, fun x hx => ?_, ?_⟩
    · show l.foldl min (min a y) ≤ x
      rcases List.mem_cons.1 hx with rfl | h
      · omega
      · exact h2 x h
    · show l.foldl min (min a y) = a ∨ l.foldl min (min a y) ∈ y :: l
      rcases h3 with h | h
      · by_cases e : a ≤ y
        · left; omega
        · right; rw [h, show min a y = y by omega]; exact List.mem_cons_self ..
      · exact .inr (List.mem_cons_of_mem _ h)
theorem foldl_max (l : List Int) : ∀ a : Int, a ≤ l.foldl max a ∧ (∀ x, x ∈ l → x ≤ l.foldl max a) ∧ (l.foldl max a = a ∨ l.foldl max a ∈ l) := by
  induction l with
  | nil => intro a; exact ⟨Int.le_refl _, fun x h => (by cases h), .inl rfl⟩
  | cons y l ih =>
    intro a
    obtain ⟨h1, h2, h3⟩ := ih (max a y)
    show a ≤ l.foldl max (max a y) ∧ _ ∧ (l.foldl max (max a y) = a ∨ _)
    refine ⟨by omega, fun x hx => ?_, ?_⟩
    · show x ≤ l.foldl max (max a y)
      rcases List.mem_cons.1 hx with rfl | h
      · omega
      · exact h2 x h
    · show l.foldl max (max a y) = a ∨ l.foldl max (max a y) ∈ y :: l
      rcases h3 with h | h
      · by_cases e : y ≤ a
        · left; omega
        · right; rw [h, show max a y = y by omega]; exact List.mem_cons_self ..
      · exact .inr (List.mem_cons_of_mem _ h)
theorem minOf_spec {l : List Int} (h : 0 < l.length) : Lib.minOf l ∈ l ∧ ∀ x, x ∈ l → Lib.minOf l ≤ x := by
  cases l with
  | nil => simp at h
  | cons a l =>
    obtain ⟨h1, h2, h3⟩ := foldl_min (a :: l) a
    exact ⟨h3.elim (fun e => by show (a :: l).foldl min a ∈ _; rw [e]; exact List.mem_cons_self ..) id, h2⟩
theorem maxOf_spec {l : List Int} (h : 0 < l.length) : Lib.maxOf l ∈ l ∧ ∀ x, x ∈ l → x ≤ Lib.maxOf l := by
  cases l with
  | nil => simp at h
  | cons a l =>
    obtain ⟨h1, h2, h3⟩ := foldl_max (a :: l) a
    exact ⟨h3.elim (fun e => by show (a :: l).foldl max a ∈ _; rw [e]; exact List.mem_cons_self ..) id, h2⟩
def bnd (z : Int) : Prop := -900000 ≤ z ∧ z ≤ 900000
theorem bnd_le {z : Int} (h : bnd z) : -1000000 ≤ z ∧ z ≤ 1000000 := by unfold bnd at h; omega
theorem crd_bnd {a b : Int} {p : Nat → List Int} {n : Nat} (ha : bnd a) (hb : bnd b) (hp : ∀ i, i < n → ∀ x, x ∈ p i → bnd x) : ∀ x, x ∈ crd a b p n → bnd x := fun x hx => by
  unfold crd at hx
  rcases List.mem_append.1 hx with h | h
  · simp at h
    rcases h with rfl | rfl
    · exact ha
    · exact hb
  · obtain ⟨i, hi, h2⟩ := List.mem_flatMap.1 h
    exact hp i (List.mem_range.1 hi) x h2
def frB (f : Fr) : Prop := bnd f.x0 ∧ bnd f.y0 ∧ bnd f.x1 ∧ bnd f.y1
theorem frP_bnd {fs : Nat → Fr} {n : Nat} (h : ∀ i, i < n → frB (fs i)) : (∀ i, i < n → ∀ x, x ∈ frP fs i → bnd x) ∧ ∀ i, i < n → ∀ x, x ∈ frQ fs i → bnd x := by
  constructor <;> intro i hi x hx
  · unfold frP at hx
    simp at hx
    rcases hx with rfl | rfl
    · exact (h i hi).1
    · exact (h i hi).2.2.1
  · unfold frQ at hx
    simp at hx
    rcases hx with rfl | rfl
    · exact (h i hi).2.1
    · exact (h i hi).2.2.2
set_option maxRecDepth 100000 in
set_option maxHeartbeats 40000000 in
theorem lines_ok {w : World} {A : Option Addr} {n c : Nat} {fs : Nat → Fr} (hr : RdF w A n 4 (frF fs)) (hn : n ≤ 1000) (hf : ∀ i, i < n → frB (fs i)) (a b : Pt) (ha : bnd a.1 ∧ bnd a.2) (hb : bnd b.1 ∧ bnd b.2) :
    Calls Try.prog 19 #[.slice A n c, ptV a, ptV b] w fun e w' => ∃ gx cx gy cy, e = .returned (.tuple #[.slice (some ⟨gx, 0, none⟩) (axis (crd a.1 b.1 (frP fs) n)).length cx, .slice (some ⟨gy, 0, none⟩) (axis (crd a.2 b.2 (frQ fs) n)).length cy]) ∧
      RdI w' (some ⟨gx, 0, none⟩) (axis (crd a.1 b.1 (frP fs) n)) ∧ RdI w' (some ⟨gy, 0, none⟩) (axis (crd a.2 b.2 (frQ fs) n)) ∧ w.heap.size ≤ gx ∧ gx < w'.heap.size ∧ w.heap.size ≤ gy ∧ gy < w'.heap.size ∧ Below w.heap.size w w' := by
  obtain ⟨ax, ay⟩ := a
  obtain ⟨bx, bY⟩ := b
  obtain ⟨ii, ij0, ij1, ij2, ij3⟩ := info_parts int_info
  obtain ⟨M, hM⟩ : ∃ M, M = w.heap.size := ⟨_, rfl⟩
  have HM := hide hM
  rw [← hM]
  have hbel := ((Below.refl w.heap.size w).alloc (Nat.le_refl _) (.cells #[.int .i64 ax, .int .i64 ay] 24)).alloc (by simp) (.cells #[.int .i64 bx, .int .i64 bY] 24)
  have HR := hide hr
  have HBX := hide (crd_bnd ha.1 hb.1 (frP_bnd hf).1)
  have HBY := hide (crd_bnd ha.2 hb.2 (frP_bnd hf).2)
  clear hr hM ha hb hf
  dsimp only at HBX HBY
  unfold ptV
  dsimp only
  go_enter Try.func19, Try.ntmps19
  go_upto_region 1 with fail
  have c0 : ((w.alloc (.cells #[.int .i64 ax, .int .i64 ay] 24)).alloc (.cells #[.int .i64 bx, .int .i64 bY] 24)).cell? ⟨w.heap.size, 0, none⟩ = some (.int .i64 ax) := ((Blk.new w 24 #[.int .i64 ax, .int .i64 ay]).alloc _).cell 0
  have c1 : ((w.alloc (.cells #[.int .i64 ax, .int .i64 ay] 24)).alloc (.cells #[.int .i64 bx, .int .i64 bY] 24)).cell? ⟨w.heap.size, 1, none⟩ = some (.int .i64 ay) := ((Blk.new w 24 #[.int .i64 ax, .int .i64 ay]).alloc _).cell 1
  have d0 : ((w.alloc (.cells #[.int .i64 ax, .int .i64 ay] 24)).alloc (.cells #[.int .i64 bx, .int .i64 bY] 24)).cell? ⟨w.heap.size + 1, 0, none⟩ = some (.int .i64 bx) := by
    have h := Blk.new (w.alloc (.cells #[.int .i64 ax, .int .i64 ay] 24)) 24 #[.int .i64 bx, .int .i64 bY]
    rw [hsz_alloc] at h
    exact h.cell 0
  have d1 : ((w.alloc (.cells #[.int .i64 ax, .int .i64 ay] 24)).alloc (.cells #[.int .i64 bx, .int .i64 bY] 24)).cell? ⟨w.heap.size + 1, 1, none⟩ = some (.int .i64 bY) := by
    have h := Blk.new (w.alloc (.cells #[.int .i64 ax, .int .i64 ay] 24)) 24 #[.int .i64 bx, .int .i64 bY]
    rw [hsz_alloc] at h
    exact h.cell 1
  generalize (w.alloc (.cells #[.int .i64 ax, .int .i64 ay] 24)).alloc (.cells #[.int .i64 bx, .int .i64 bY] 24) = w1 at *
  rw [← HM.out] at c0 c1 d0 d1 hbel
  rw [← HM.out]
  have hMs : M ≤ w1.heap.size := Nat.le_trans (Nat.le_of_eq HM.out) hbel.size
  have HRb : Hid (∀ wx, Below M w wx → RdF wx A n 4 (frF fs)) := hide (fun wx h => HR.out.below (by rw [← HM.out]; exact h))
  go_cut [8, 9] (fun v0 v1 wc => ∃ gx gy, v0 = .slice (some ⟨gx, 0, none⟩) 2 2 ∧ v1 = .slice (some ⟨gy, 0, none⟩) 2 2 ∧ LW w wc M gx 2 gy 2 2 [ax, bx] [ay, bY])
  case first =>
    have o1 := (own_lit w1 M 3 [ax, bx] 2 rfl hMs (by decide)).alloc (.cells #[.int .i64 ay, .int .i64 bY] 3)
    have o2 := own_lit (w1.alloc (.cells #[.int .i64 ax, .int .i64 bx] 3)) M 3 [ay, bY] 2 rfl (by simp; omega) (by decide)
    have o3 := (own_lit w1 M 3 [ay, bY] 2 rfl hMs (by decide)).alloc (.cells #[.int .i64 ax, .int .i64 bx] 3)
    have o4 := own_lit (w1.alloc (.cells #[.int .i64 ay, .int .i64 bY] 3)) M 3 [ax, bx] 2 rfl (by simp; omega) (by decide)
    rw [hsz_alloc] at o2 o4
    have L1 : Hid (LW w ((w1.alloc (.cells #[.int .i64 ax, .int .i64 bx] 3)).alloc (.cells #[.int .i64 ay, .int .i64 bY] 3)).drew M w1.heap.size 2 (w1.heap.size + 1) 2 2 [ax, bx] [ay, bY]) := hide ⟨own_drewN o1 1, own_drewN o2 1, by omega, below_drewN ((hbel.alloc hMs _).alloc (by simp; omega) _) 1⟩
    have L2 : Hid (LW w ((w1.alloc (.cells #[.int .i64 ay, .int .i64 bY] 3)).alloc (.cells #[.int .i64 ax, .int .i64 bx] 3)).drew M (w1.heap.size + 1) 2 w1.heap.size 2 2 [ax, bx] [ay, bY]) := hide ⟨own_drewN o4 1, own_drewN o3 1, by omega, below_drewN ((hbel.alloc hMs _).alloc (by simp; omega) _) 1⟩
    clear o1 o2 o3 o4 hbel
    go_region_held3 (fun w' => w'.cell? ⟨M, 0, none⟩ = some (.int .i64 ax) ∧ w'.cell? ⟨M, 1, none⟩ = some (.int .i64 ay) ∧ w'.cell? ⟨M + 1, 0, none⟩ = some (.int .i64 bx) ∧ w'.cell? ⟨M + 1, 1, none⟩ = some (.int .i64 bY))
      (first | go_keep)
      (fail)
    all_goals (go_wp2_with fail; go_meet; first | exact ⟨_, _, rfl, rfl, L1.out⟩ | exact ⟨_, _, rfl, rfl, L2.out⟩)
  case rest =>
    clear hbel c0 c1 d0 d1 HR hMs
    obtain ⟨gx, gy, rfl, rfl, hL⟩ := hcut
    have HL := hide hL
    clear hL
    obtain ⟨mN, HmN⟩ : ∃ m, Hid (m = 2 + 2 * n) := ⟨_, rfl⟩
    go_upto_block 0 with fail
    go_cut [8, 9] (fun v0 v1 wc => ∃ gx gy cx cy, v0 = .slice (some ⟨gx, 0, none⟩) mN cx ∧ v1 = .slice (some ⟨gy, 0, none⟩) mN cy ∧ LW w wc M gx cx gy cy mN (crd ax bx (frP fs) n) (crd ay bY (frQ fs) n))
    case first =>
      go_wp2_with fail
      go_loopw [24, 8, 9, 11] (fun i v0 v1 _ wr => ∃ (k m gx gy cx cy : Nat), i = .int .i64 k ∧ v0 = .slice (some ⟨gx, 0, none⟩) m cx ∧ v1 = .slice (some ⟨gy, 0, none⟩) m cy ∧ k ≤ n ∧ Hid (m = 2 + 2 * k) ∧ Hid (LW w wr M gx cx gy cy m (crd ax bx (frP fs) k) (crd ay bY (frQ fs) k))) (fun i _ _ _ _ => n - (intOf i).toNat)
      case atStart => exact ⟨0, 2, gx, gy, 2, 2, rfl, rfl, rfl, Nat.zero_le _, hide rfl, HL⟩
      case round =>
        clear HL
        obtain ⟨wo, rfl⟩ : ∃ wx : World, wx = wr := ⟨_, rfl⟩
        obtain ⟨k, m, gx, gy, cx, cy, rfl, rfl, rfl, hk, Hm, HL⟩ := hrel
        by_cases hlt : k < n
        · have hm : m ≤ 2002 := by have := Hm.out; omega
          obtain ⟨bf, of, rfl, hc⟩ := (HRb.out wo HL.out.bel).at_ hlt
          have e0 := hc 0 (by omega)
          have e1 := hc 1 (by omega)
          have e2 := hc 2 (by omega)
          have e3 := hc 3 (by omega)
          have k1 : decide ((k : Int) < (n : Int)) = true := decide_eq_true (by omega)
          have k2 : (k : Int) < (n : Int) := by omega
          have k3 : (0 : Int) ≤ (k : Int) := by omega
          have k4 : (k : Int) ≤ 1000 := by omega
          change wo.cell? ⟨bf, of + k * 4 + 0, none⟩ = some (.int .i64 (fs k).x0) at e0
          change wo.cell? ⟨bf, of + k * 4 + 1, none⟩ = some (.int .i64 (fs k).y0) at e1
          change wo.cell? ⟨bf, of + k * 4 + 2, none⟩ = some (.int .i64 (fs k).x1) at e2
          change wo.cell? ⟨bf, of + k * 4 + 3, none⟩ = some (.int .i64 (fs k).y1) at e3
          rw [Nat.add_zero] at e0
          have HPs := hide (crd_succ ax bx (frP fs) k)
          have HQs := hide (crd_succ ay bY (frQ fs) k)
          have HF1 : Hid (frP fs k = [(fs k).x0, (fs k).x1]) := hide rfl
          have HF2 : Hid (frQ fs k = [(fs k).y0, (fs k).y1]) := hide rfl
          obtain ⟨lx, Hlx⟩ : ∃ l, Hid (l = crd ax bx (frP fs) k) := ⟨_, rfl⟩
          obtain ⟨ly, Hly⟩ : ∃ l, Hid (l = crd ay bY (frQ fs) k) := ⟨_, rfl⟩
          rw [← Hlx.out] at HPs HL
          rw [← Hly.out] at HQs HL
          obtain ⟨x0, Hx0⟩ : ∃ z : Int, Hid (z = (fs k).x0) := ⟨_, rfl⟩
          obtain ⟨y0, Hy0⟩ : ∃ z : Int, Hid (z = (fs k).y0) := ⟨_, rfl⟩
          obtain ⟨x1, Hx1⟩ : ∃ z : Int, Hid (z = (fs k).x1) := ⟨_, rfl⟩
          obtain ⟨y1, Hy1⟩ : ∃ z : Int, Hid (z = (fs k).y1) := ⟨_, rfl⟩
          rw [← Hx0.out] at e0 HF1
          rw [← Hy0.out] at e1 HF2
          rw [← Hx1.out] at e2 HF1
          rw [← Hy1.out] at e3 HF2
          rw [HF1.out] at HPs
          rw [HF2.out] at HQs
          have hMo : M ≤ wo.heap.size := Nat.le_trans (Nat.le_of_eq HM.out) HL.out.bel.size
          have HL2 := hide (HL.out.alloc hMo (.cells #[.int .i64 x0, .int .i64 y0, .int .i64 x1, .int .i64 y1] 34))
          have hgx : gx < wo.heap.size := (own_blk_ge HL.out.ox (k := gx) (by simp [Value.ownBlock])).2
          have hgy : gy < wo.heap.size := (own_blk_ge HL.out.oy (k := gy) (by simp [Value.ownBlock])).2
          have HXB := hide (Blk.new wo 34 #[.int .i64 x0, .int .i64 y0, .int .i64 x1, .int .i64 y1])
          have hsz : (wo.alloc (.cells #[.int .i64 x0, .int .i64 y0, .int .i64 x1, .int .i64 y1] 34)).heap.size = wo.heap.size + 1 := by simp
          clear hc hlt HL Hx0 Hy0 Hx1 Hy1 HF1 HF2
          go_upto_region 5 with fail
          have s0 := HXB.out.cell 0
          have s1 := HXB.out.cell 1
          have s2 := HXB.out.cell 2
          have s3 := HXB.out.cell 3
          obtain ⟨g, Hg⟩ : ∃ g, Hid (g = wo.heap.size) := ⟨_, rfl⟩
          rw [← Hg.out] at s0 s1 s2 s3 hsz hgx hgy
          rw [← Hg.out]
          clear HXB e0 e1 e2 e3 hMo
          generalize wo.alloc (.cells #[.int .i64 x0, .int .i64 y0, .int .i64 x1, .int .i64 y1] 34) = w2 at *
          change w2.cell? ⟨g, 0, none⟩ = some (.int .i64 x0) at s0
          change w2.cell? ⟨g, 1, none⟩ = some (.int .i64 y0) at s1
          change w2.cell? ⟨g, 2, none⟩ = some (.int .i64 x1) at s2
          change w2.cell? ⟨g, 3, none⟩ = some (.int .i64 y1) at s3
          have hMo : M ≤ w2.heap.size := Nat.le_trans (Nat.le_of_eq HM.out) HL2.out.bel.size
          have hgx2 : gx < w2.heap.size := by omega
          have hgy2 : gy < w2.heap.size := by omega
          have hxy : gx ≠ gy := HL2.out.ne
          have hxs := HL2.out.ox
          have hys := HL2.out.oy
          have HB0 := hide (below_drewN HL2.out.bel 1)
          have hneA : ∀ k, (Value.slice (some ⟨gx, 0, none⟩) m cx).ownBlock = some k → (Value.slice (some ⟨gy, 0, none⟩) m cy).ownBlock ≠ some k := fun k hk e => by simp [Value.ownBlock] at hk e; omega
          have hneB : ∀ k, (Value.slice (some ⟨gy, 0, none⟩) m cy).ownBlock = some k → (Value.slice (some ⟨gx, 0, none⟩) m cx).ownBlock ≠ some k := fun k hk e => by simp [Value.ownBlock] at hk e; omega
          have nA : some g ≠ (Value.slice (some ⟨gx, 0, none⟩) m cx).ownBlock := by simp [Value.ownBlock]; omega
          have nB : some g ≠ (Value.slice (some ⟨gy, 0, none⟩) m cy).ownBlock := by simp [Value.ownBlock]; omega
          have hrA : ∀ k, (Value.slice (some ⟨gx, 0, none⟩) m cx).ownBlock = some k → M ≤ k := fun k hk => (own_blk_ge hxs hk).1
          have hrB : ∀ k, (Value.slice (some ⟨gy, 0, none⟩) m cy).ownBlock = some k → M ≤ k := fun k hk => (own_blk_ge hys hk).1
          have HM2 : Hid (m + 2 = 2 + 2 * (k + 1)) := hide (by have := Hm.out; omega)
          clear Hlx Hly Hm HL2
          go_region_held3 (fun w' => w'.cell? ⟨g, 0, none⟩ = some (.int .i64 x0) ∧ w'.cell? ⟨g, 1, none⟩ = some (.int .i64 y0) ∧ w'.cell? ⟨g, 2, none⟩ = some (.int .i64 x1) ∧ w'.cell? ⟨g, 3, none⟩ = some (.int .i64 y1))
            (first | go_keep | (go_split_ands; refine ⟨?_, ?_, ?_, ?_⟩ <;> first | (rw [hgrowA.cell_far _ (by first | (simp; omega) | (have h9 := hgrowB.size; simp at h9 ⊢; omega)) nA]; assumption) | (rw [hgrowB.cell_far _ (by first | (simp; omega) | (have h9 := hgrowA.size; simp at h9 ⊢; omega)) nB]; assumption)))
            (first | (refine step_append_lies _ (by rfl) _ _ _ (by rfl) M 3 ii _ 1 8 Try.underlying43 ij0 ij1 ij2 ij3 rfl (by omega) (.slice (some ⟨gx, 0, none⟩) m cx) m (lx.map (Value.int .i64)) (by rfl) (by first | exact (own_drewN hxs 1) | exact World.ownsRow.alloc (own_drewN hxs 1) _ | exact World.ownsRow.alloc (World.ownsRow.alloc (own_drewN hxs 1) _) _ | exact own_grown (World.ownsRow.alloc (own_drewN hxs 1) _) hgrowB hneA | exact own_grown (World.ownsRow.alloc (World.ownsRow.alloc (own_drewN hxs 1) _) _) hgrowB hneA | exact World.ownsRow.alloc (own_grown (World.ownsRow.alloc (own_drewN hxs 1) _) hgrowB hneA) _) _ 2 _ [.int .i64 x0, .int .i64 x1] (by rfl) (by rfl) (by first | exact World.news_of_block (cs := #[.int .i64 x0, .int .i64 x1]) (t := 3) (fr := (0, 0)) (news0 hsz) | exact World.news_of_block (cs := #[.int .i64 x0, .int .i64 x1]) (t := 3) (fr := (0, 0)) (news1 hsz) | exact World.news_of_block (cs := #[.int .i64 x0, .int .i64 x1]) (t := 3) (fr := (0, 0)) (news2 hsz) | exact World.news_of_block (cs := #[.int .i64 x0, .int .i64 x1]) (t := 3) (fr := (0, 0)) (heap_alloc_new _ _) | exact World.news_of_block (cs := #[.int .i64 x0, .int .i64 x1]) (t := 3) (fr := (0, 0)) ((hgrowB.block _ (by first | (simp; omega) | (simp [hsz]; done) | (simp [hsz]; omega)) (by simp [Value.ownBlock]; omega)).trans (news0 hsz)) | exact World.news_of_block (cs := #[.int .i64 x0, .int .i64 x1]) (t := 3) (fr := (0, 0)) ((hgrowB.block _ (by first | (simp; omega) | (simp [hsz]; done) | (simp [hsz]; omega)) (by simp [Value.ownBlock]; omega)).trans (news1 hsz)) | exact World.news_of_block (cs := #[.int .i64 x0, .int .i64 x1]) (t := 3) (fr := (0, 0)) ((hgrowB.block _ (by first | (simp; omega) | (simp [hsz]; done) | (simp [hsz]; omega)) (by simp [Value.ownBlock]; omega)).trans (news2 hsz))) (by simp [Value.oneCell']) (by omega) (by simp only [maxLen]; omega) (by omega) (by first | (simp; omega) | (have h9 := hgrowB.size; simp at h9 ⊢; omega)) _ rfl ?_; intro gA capA wA hownA hgrowA hatA hltA) | (refine step_append_lies _ (by rfl) _ _ _ (by rfl) M 3 ii _ 1 8 Try.underlying43 ij0 ij1 ij2 ij3 rfl (by omega) (.slice (some ⟨gy, 0, none⟩) m cy) m (ly.map (Value.int .i64)) (by rfl) (by first | exact (own_drewN hys 1) | exact World.ownsRow.alloc (own_drewN hys 1) _ | exact World.ownsRow.alloc (World.ownsRow.alloc (own_drewN hys 1) _) _ | exact own_grown (World.ownsRow.alloc (own_drewN hys 1) _) hgrowA hneB | exact own_grown (World.ownsRow.alloc (World.ownsRow.alloc (own_drewN hys 1) _) _) hgrowA hneB | exact World.ownsRow.alloc (own_grown (World.ownsRow.alloc (own_drewN hys 1) _) hgrowA hneB) _) _ 2 _ [.int .i64 y0, .int .i64 y1] (by rfl) (by rfl) (by first | exact World.news_of_block (cs := #[.int .i64 y0, .int .i64 y1]) (t := 3) (fr := (0, 0)) (news0 hsz) | exact World.news_of_block (cs := #[.int .i64 y0, .int .i64 y1]) (t := 3) (fr := (0, 0)) (news1 hsz) | exact World.news_of_block (cs := #[.int .i64 y0, .int .i64 y1]) (t := 3) (fr := (0, 0)) (news2 hsz) | exact World.news_of_block (cs := #[.int .i64 y0, .int .i64 y1]) (t := 3) (fr := (0, 0)) (heap_alloc_new _ _) | exact World.news_of_block (cs := #[.int .i64 y0, .int .i64 y1]) (t := 3) (fr := (0, 0)) ((hgrowA.block _ (by first | (simp; omega) | (simp [hsz]; done) | (simp [hsz]; omega)) (by simp [Value.ownBlock]; omega)).trans (news0 hsz)) | exact World.news_of_block (cs := #[.int .i64 y0, .int .i64 y1]) (t := 3) (fr := (0, 0)) ((hgrowA.block _ (by first | (simp; omega) | (simp [hsz]; done) | (simp [hsz]; omega)) (by simp [Value.ownBlock]; omega)).trans (news1 hsz)) | exact World.news_of_block (cs := #[.int .i64 y0, .int .i64 y1]) (t := 3) (fr := (0, 0)) ((hgrowA.block _ (by first | (simp; omega) | (simp [hsz]; done) | (simp [hsz]; omega)) (by simp [Value.ownBlock]; omega)).trans (news2 hsz))) (by simp [Value.oneCell']) (by omega) (by simp only [maxLen]; omega) (by omega) (by first | (simp; omega) | (have h9 := hgrowA.size; simp at h9 ⊢; omega)) _ rfl ?_; intro gB capB wB hownB hgrowB hatB hltB))
          all_goals (first
            | (have LL : LW w wA M gA capA gB capB (m + 2) (lx ++ [x0, x1]) (ly ++ [y0, y1]) := by
                refine ⟨?_, ?_, ?_, (by first | exact ((HB0.out.alloc (by first | (simp; omega) | (have h9 := hgrowB.size; simp at h9 ⊢; omega)) _).grown hgrowB (by first | (simp; omega) | (have h9 := hgrowB.size; simp at h9 ⊢; omega)) hrB).grown hgrowA (by first | (simp; omega) | (have h9 := hgrowB.size; simp at h9 ⊢; omega)) hrA | exact (((HB0.out.alloc (by first | (simp; omega) | (have h9 := hgrowB.size; simp at h9 ⊢; omega)) _).grown hgrowB (by first | (simp; omega) | (have h9 := hgrowB.size; simp at h9 ⊢; omega)) hrB).alloc (by first | (simp; omega) | (have h9 := hgrowB.size; simp at h9 ⊢; omega)) _).grown hgrowA (by first | (simp; omega) | (have h9 := hgrowB.size; simp at h9 ⊢; omega)) hrA | exact (((HB0.out.alloc (by first | (simp; omega) | (have h9 := hgrowB.size; simp at h9 ⊢; omega)) _).alloc (by first | (simp; omega) | (have h9 := hgrowB.size; simp at h9 ⊢; omega)) _).grown hgrowB (by first | (simp; omega) | (have h9 := hgrowB.size; simp at h9 ⊢; omega)) hrB).grown hgrowA (by first | (simp; omega) | (have h9 := hgrowB.size; simp at h9 ⊢; omega)) hrA | exact ((((HB0.out.alloc (by first | (simp; omega) | (have h9 := hgrowB.size; simp at h9 ⊢; omega)) _).alloc (by first | (simp; omega) | (have h9 := hgrowB.size; simp at h9 ⊢; omega)) _).grown hgrowB (by first | (simp; omega) | (have h9 := hgrowB.size; simp at h9 ⊢; omega)) hrB).alloc (by first | (simp; omega) | (have h9 := hgrowB.size; simp at h9 ⊢; omega)) _).grown hgrowA (by first | (simp; omega) | (have h9 := hgrowB.size; simp at h9 ⊢; omega)) hrA)⟩
                · rw [List.map_append]; exact hownA
                · rw [List.map_append]; exact (by first | exact own_grown hownB hgrowA (fun k hk e => by simp [Value.ownBlock] at hk e hatB; omega) | exact own_grown (World.ownsRow.alloc hownB _) hgrowA (fun k hk e => by simp [Value.ownBlock] at hk e hatB; omega))
                · have h9 := hgrowB.size
                  simp [Value.ownBlock] at hatA hatB h9
                  omega)
            | (have LL : LW w wB M gA capA gB capB (m + 2) (lx ++ [x0, x1]) (ly ++ [y0, y1]) := by
                refine ⟨?_, ?_, ?_, (by first | exact ((HB0.out.alloc (by first | (simp; omega) | (have h9 := hgrowA.size; simp at h9 ⊢; omega)) _).grown hgrowA (by first | (simp; omega) | (have h9 := hgrowA.size; simp at h9 ⊢; omega)) hrA).grown hgrowB (by first | (simp; omega) | (have h9 := hgrowA.size; simp at h9 ⊢; omega)) hrB | exact (((HB0.out.alloc (by first | (simp; omega) | (have h9 := hgrowA.size; simp at h9 ⊢; omega)) _).grown hgrowA (by first | (simp; omega) | (have h9 := hgrowA.size; simp at h9 ⊢; omega)) hrA).alloc (by first | (simp; omega) | (have h9 := hgrowA.size; simp at h9 ⊢; omega)) _).grown hgrowB (by first | (simp; omega) | (have h9 := hgrowA.size; simp at h9 ⊢; omega)) hrB | exact (((HB0.out.alloc (by first | (simp; omega) | (have h9 := hgrowA.size; simp at h9 ⊢; omega)) _).alloc (by first | (simp; omega) | (have h9 := hgrowA.size; simp at h9 ⊢; omega)) _).grown hgrowA (by first | (simp; omega) | (have h9 := hgrowA.size; simp at h9 ⊢; omega)) hrA).grown hgrowB (by first | (simp; omega) | (have h9 := hgrowA.size; simp at h9 ⊢; omega)) hrB | exact ((((HB0.out.alloc (by first | (simp; omega) | (have h9 := hgrowA.size; simp at h9 ⊢; omega)) _).alloc (by first | (simp; omega) | (have h9 := hgrowA.size; simp at h9 ⊢; omega)) _).grown hgrowA (by first | (simp; omega) | (have h9 := hgrowA.size; simp at h9 ⊢; omega)) hrA).alloc (by first | (simp; omega) | (have h9 := hgrowA.size; simp at h9 ⊢; omega)) _).grown hgrowB (by first | (simp; omega) | (have h9 := hgrowA.size; simp at h9 ⊢; omega)) hrB)⟩
                · rw [List.map_append]; exact (by first | exact own_grown hownA hgrowB (fun k hk e => by simp [Value.ownBlock] at hk e hatA; omega) | exact own_grown (World.ownsRow.alloc hownA _) hgrowB (fun k hk e => by simp [Value.ownBlock] at hk e hatA; omega))
                · rw [List.map_append]; exact hownB
                · have h9 := hgrowA.size
                  simp [Value.ownBlock] at hatB hatA h9
                  omega))
          all_goals (
            have LL2 : Hid (LW w _ M gA capA gB capB (m + 2) (crd ax bx (frP fs) (k + 1)) (crd ay bY (frQ fs) (k + 1))) := hide (by rw [HPs.out, HQs.out]; exact LL)
            clear LL HPs HQs s0 s1 s2 s3 hxs hys HB0 hneA hneB nA nB hrA hrB hownA hownB hgrowA hgrowB hatA hatB
            go_wp2_with fail
            go_roundw
            case rel => exact ⟨k + 1, m + 2, gA, gB, capA, capB, by go_num, rfl, rfl, by omega, HM2, LL2⟩
            case measure => (simp [intOf]; omega))
        · obtain rfl : k = n := by omega
          have k1 : decide ((k : Int) < (k : Int)) = false := decide_eq_false (by omega)
          have Hm2 : m = mN := Hm.out.trans HmN.out.symm
          subst Hm2
          go_wp2_with fail
          go_meet
          exact ⟨gx, gy, cx, cy, rfl, rfl, HL.out⟩
    case rest =>
      clear HL
      obtain ⟨gx, gy, cx, cy, rfl, rfl, hL⟩ := hcut
      have hm : mN ≤ 2002 := by have := HmN.out; omega
      have hm0 : 2 ≤ mN := by have := HmN.out; omega
      have Hlen := hide (crd_len ax bx fs n)
      have Hlen2 := hide (crd_len ay bY fs n)
      obtain ⟨lx, Hlx⟩ : ∃ l, Hid (l = crd ax bx (frP fs) n) := ⟨_, rfl⟩
      obtain ⟨ly, Hly⟩ : ∃ l, Hid (l = crd ay bY (frQ fs) n) := ⟨_, rfl⟩
      have hlx : lx.length = mN := by rw [Hlx.out, HmN.out]; exact Hlen.out.1
      have hly : ly.length = mN := by rw [Hly.out, HmN.out]; exact Hlen2.out.2
      rw [← Hlx.out, ← Hly.out] at hL
      obtain ⟨w3, rfl⟩ : ∃ wx : World, wx = wc := ⟨_, rfl⟩
      have hM3 : M ≤ w3.heap.size := Nat.le_trans (Nat.le_of_eq HM.out) hL.bel.size
      have cX : ∀ j, j < lx.length → w3.cell? ⟨gx, 0 + j, none⟩ = some (.int .i64 (lx.getD j 0)) := fun j hj => (RdI.of_own hL.ox).get hj
      have mn1 := hide (fun wx (hx : ∀ j, j < lx.length → wx.cell? ⟨gx, 0 + j, none⟩ = some (.int .i64 (lx.getD j 0))) => Try.slices_Min_int gx 0 mN cx lx wx (by omega) (by omega) (by omega) hx)
      have mx1 := hide (fun wx (hx : ∀ j, j < lx.length → wx.cell? ⟨gx, 0 + j, none⟩ = some (.int .i64 (lx.getD j 0))) => Try.slices_Max_int gx 0 mN cx lx wx (by omega) (by omega) (by omega) hx)
      have HcX := hide cX
      have HL := hide hL
      have hbx : bnd (Lib.minOf lx) := by rw [Hlx.out]; exact HBX.out _ (minOf_spec (by rw [← Hlx.out]; omega)).1
      have hbx2 : bnd (Lib.maxOf lx) := by rw [Hlx.out]; exact HBX.out _ (maxOf_spec (by rw [← Hlx.out]; omega)).1
      have hby : bnd (Lib.minOf ly) := by rw [Hly.out]; exact HBY.out _ (minOf_spec (by rw [← Hly.out]; omega)).1
      have hby2 : bnd (Lib.maxOf ly) := by rw [Hly.out]; exact HBY.out _ (maxOf_spec (by rw [← Hly.out]; omega)).1
      unfold bnd at hbx hbx2 hby hby2
      have tk : lx.take mN = lx := by rw [← hlx, List.take_length]
      rw [tk] at mn1 mx1
      have HAX : Hid (axis lx = Lib.compact (srt (lx ++ [Lib.minOf lx - 100, Lib.maxOf lx + 100]))) := hide rfl
      have HAY : Hid (axis ly = Lib.compact (srt (ly ++ [Lib.minOf ly - 100, Lib.maxOf ly + 100]))) := hide rfl
      have HmnX := hide (show Lib.minOf lx = Lib.minOf lx from rfl)
      obtain ⟨a0, Ha0⟩ : ∃ z : Int, Hid (z = Lib.minOf lx) := ⟨_, rfl⟩
      obtain ⟨a1, Ha1⟩ : ∃ z : Int, Hid (z = Lib.maxOf lx) := ⟨_, rfl⟩
      obtain ⟨b0, Hb0⟩ : ∃ z : Int, Hid (z = Lib.minOf ly) := ⟨_, rfl⟩
      obtain ⟨b1, Hb1⟩ : ∃ z : Int, Hid (z = Lib.maxOf ly) := ⟨_, rfl⟩
      rw [← Ha0.out] at mn1 hbx HAX
      rw [← Ha1.out] at mx1 hbx2 HAX
      rw [← Hb0.out] at hby HAY
      rw [← Hb1.out] at hby2 HAY
      have hxs := HL.out.ox
      have hys := HL.out.oy
      have hb3 := HL.out.bel
      have hxy := HL.out.ne
      have hgy : gy < w3.heap.size := (own_blk_ge hys (k := gy) (by simp [Value.ownBlock])).2
      have hgx : gx < w3.heap.size := (own_blk_ge hxs (k := gx) (by simp [Value.ownBlock])).2
      have hgy3 := hgy
      have hneY : ∀ k, (Value.slice (some ⟨gy, 0, none⟩) mN cy).ownBlock = some k → (Value.slice (some ⟨gx, 0, none⟩) mN cx).ownBlock ≠ some k := fun k hk e => by simp [Value.ownBlock] at hk e; omega
      clear cX hL tk Hlen Hlen2
      go_wp2_with fail
      refine (mn1.out _ HcX.out).mono ?_
      rintro e4 w4 ⟨rfl, rfl⟩
      go_wp2_with fail
      refine (mx1.out _ HcX.out).mono ?_
      rintro e5 w5 ⟨rfl, rfl⟩
      go_wp2_with (at_builtin; refine wpList_append_lies _ rfl _ _ _ rfl M 3 ii _ 1 8 Try.underlying43 ij0 ij1 ij2 ij3 rfl (by decide) (.slice (some ⟨gx, 0, none⟩) mN cx) mN (lx.map (Value.int .i64)) rfl (hxs.alloc _) _ 2 _ [.int .i64 (a0 - 100), .int .i64 (a1 + 100)] rfl rfl (news_at _ _ _ _ (by simp)) (by simp [Value.oneCell']) (by omega) (by simp only [maxLen]; omega) (by omega) (by simp; omega) _ rfl ?_; intro g6 c6 w6 hown6 hgrow6 hat6 hlt6)
      rw [show lx.map (Value.int .i64) ++ [Value.int .i64 (a0 - 100), Value.int .i64 (a1 + 100)] = (lx ++ [a0 - 100, a1 + 100]).map (Value.int .i64) by rw [List.map_append]; rfl] at hown6
      have hb6 := below_app (hb3.alloc hM3 _) (by simp; omega) (hxs.alloc _) hgrow6
      have hys6 := own_grown (hys.alloc (.cells #[.int .i64 (a0 - 100), .int .i64 (a1 + 100)] 3)) hgrow6 hneY
      have cY : ∀ j, j < ly.length → w6.cell? ⟨gy, 0 + j, none⟩ = some (.int .i64 (ly.getD j 0)) := fun j hj => (RdI.of_own hys6).get hj
      have tk2 : ly.take mN = ly := by rw [← hly, List.take_length]
      have mn2 := Try.slices_Min_int gy 0 mN cy ly w6 (by omega) (by omega) (by omega) cY
      have mx2 := Try.slices_Max_int gy 0 mN cy ly w6 (by omega) (by omega) (by omega) cY
      rw [tk2, ← Hb0.out] at mn2
      rw [tk2, ← Hb1.out] at mx2
      have Hmn2 := hide mn2
      have Hmx2 := hide mx2
      have hgy6 : gy < w6.heap.size := (own_blk_ge hys6 (k := gy) (by simp [Value.ownBlock])).2
      have hgx6 : g6 < w6.heap.size := (own_blk_ge hown6 (k := g6) (by simp [Value.ownBlock])).2
      have hxy6 : g6 ≠ gy := by
        have h6 : gx = g6 ∨ g6 = w5.heap.size + 1 := hat6.imp (fun h => by simpa [Value.ownBlock] using h) (fun h => by rw [h]; simp)
        have h7 := hgy3
        have h8 := hxy
        omega
      clear mn2 mx2 tk2 cY hxs hys hgrow6 HcX hb3 hM3 mn1 mx1 HL hneY hat6 hlt6
      refine Hmn2.out.mono ?_
      rintro e7 w7 ⟨rfl, rfl⟩
      go_wp2_with fail
      refine Hmx2.out.mono ?_
      rintro e8 w8 ⟨rfl, rfl⟩
      have hM6 : M ≤ w8.heap.size := Nat.le_trans (Nat.le_of_eq HM.out) hb6.size
      have hneX : ∀ k, (Value.slice (some ⟨g6, 0, none⟩) (mN + 2) c6).ownBlock = some k → (Value.slice (some ⟨gy, 0, none⟩) mN cy).ownBlock ≠ some k := fun k hk e => by simp [Value.ownBlock] at hk e; omega
      go_wp2_with (at_builtin; refine wpList_append_lies _ rfl _ _ _ rfl M 3 ii _ 1 8 Try.underlying43 ij0 ij1 ij2 ij3 rfl (by decide) (.slice (some ⟨gy, 0, none⟩) mN cy) mN (ly.map (Value.int .i64)) rfl (hys6.alloc _) _ 2 _ [.int .i64 (b0 - 100), .int .i64 (b1 + 100)] rfl rfl (news_at _ _ _ _ (by simp)) (by simp [Value.oneCell']) (by omega) (by simp only [maxLen]; omega) (by omega) (by simp; omega) _ rfl ?_; intro g9 c9 w9 hown9 hgrow9 hat9 hlt9)
      rw [show ly.map (Value.int .i64) ++ [Value.int .i64 (b0 - 100), Value.int .i64 (b1 + 100)] = (ly ++ [b0 - 100, b1 + 100]).map (Value.int .i64) by rw [List.map_append]; rfl] at hown9
      have hb9 := below_app (hb6.alloc hM6 _) (by simp; omega) (hys6.alloc _) hgrow9
      have hneX6 : ∀ k, (Value.slice (some ⟨g6, 0, none⟩) (mN + 2) c6).ownBlock = some k → (Value.slice (some ⟨gy, 0, none⟩) mN cy).ownBlock ≠ some k := fun k hk e => by simp [Value.ownBlock] at hk e; omega
      have hxs9 := own_grown (hown6.alloc (.cells #[.int .i64 (b0 - 100), .int .i64 (b1 + 100)] 3)) hgrow9 hneX6
      have hxy9 : g6 ≠ g9 := by
        have h6 : gy = g9 ∨ g9 = w8.heap.size + 1 := hat9.imp (fun h => by simpa [Value.ownBlock] using h) (fun h => by rw [h]; simp)
        have h7 := hgx6
        have h8 := hxy6
        omega
      have hM9 : M ≤ w9.heap.size := Nat.le_trans (Nat.le_of_eq HM.out) hb9.size
      have hS1 := hide (sort_own (xs := lx ++ [a0 - 100, a1 + 100]) (by rw [List.length_append, hlx]; rfl) hxs9 hM9 (by omega))
      have hgM : M ≤ g6 := (own_blk_ge hxs9 (k := g6) (by simp [Value.ownBlock])).1
      have hgM9 : M ≤ g9 := (own_blk_ge hown9 (k := g9) (by simp [Value.ownBlock])).1
      have Hys := hide hown9
      have Hb9 := hide hb9
      clear hgrow9 hat9 hlt9 hown6 hown9 hxs9 hb6 hb9 hys6 hneX hneX6 Hmn2 Hmx2
      refine hS1.out.mono ?_
      rintro e10 w10 ⟨rfl, hx10, hg10⟩
      have hy10 := own_grown Hys.out hg10 (ne_own (Ne.symm hxy9))
      have hb10 := below_of_grown hg10 hM9 (fun k hk => by cases hk; exact hgM)
      have hb10 := Hb9.out.trans hb10
      have hM10 : M ≤ w10.heap.size := Nat.le_trans (Nat.le_of_eq HM.out) hb10.size
      have hS2 := hide (sort_own (xs := ly ++ [b0 - 100, b1 + 100]) (by rw [List.length_append, hly]; rfl) hy10 hM10 (by omega))
      have Hx10 := hide hx10
      have Hb10 := hide hb10
      clear hS1 Hys Hb9 hg10 hx10 hy10 hb10
      go_wp2_with fail
      refine hS2.out.mono ?_
      rintro e11 w11 ⟨rfl, hy11, hg11⟩
      have hx11 := own_grown Hx10.out hg11 (ne_own hxy9)
      have hb11 := Hb10.out.trans (below_of_grown hg11 hM10 (fun k hk => by cases hk; exact hgM9))
      have hM11 : M ≤ w11.heap.size := Nat.le_trans (Nat.le_of_eq HM.out) hb11.size
      have hC1 := hide (compact_own (xs := srt (lx ++ [a0 - 100, a1 + 100])) (by rw [srt_len, List.length_append, hlx]; rfl) hx11 (by omega))
      rw [← HAX.out] at hC1
      have hg6a := (own_blk_ge hx11 (k := g6) (by simp [Value.ownBlock])).2
      have hg9a := (own_blk_ge hy11 (k := g9) (by simp [Value.ownBlock])).2
      have Hy11 := hide hy11
      have Hb11 := hide hb11
      clear hS2 Hx10 Hb10 hg11 hx11 hy11 hb11
      go_wp2_with fail
      refine hC1.out.mono ?_
      rintro e12 w12 ⟨rfl, hx12, hg12⟩
      have hy12 := own_grown Hy11.out hg12 (ne_own (Ne.symm hxy9))
      have hb12 := Hb11.out.trans (below_of_grown hg12 hM11 (fun k hk => by cases hk; exact hgM))
      have hM12 : M ≤ w12.heap.size := Nat.le_trans (Nat.le_of_eq HM.out) hb12.size
      have hC2 := hide (compact_own (xs := srt (ly ++ [b0 - 100, b1 + 100])) (by rw [srt_len, List.length_append, hly]; rfl) hy12 (by omega))
      rw [← HAY.out] at hC2
      have hg6l : g6 < w12.heap.size := Nat.lt_of_lt_of_le hg6a hg12.size
      have hg9l : g9 < w12.heap.size := Nat.lt_of_lt_of_le hg9a hg12.size
      have Hx12 := hide hx12
      have Hb12 := hide hb12
      clear hC1 Hy11 Hb11 hg12 hx12 hy12 hb12
      go_wp2_with fail
      refine hC2.out.mono ?_
      rintro e13 w13 ⟨rfl, hy13, hg13⟩
      have hx13 : RdI w13 (some ⟨g6, 0, none⟩) (axis lx) := rdI_chg Hx12.out ((Chg.refl (Is g9) _).grown hg13 (fun k hk => .inl (by cases hk; rfl))) (fun ad e => by cases e; exact hxy9)
      have hb13 := Hb12.out.trans (below_of_grown hg13 hM12 (fun k hk => by cases hk; exact hgM9))
      have HF := hide (And.intro hx13 (And.intro hy13 (And.intro hgM (And.intro (Nat.lt_of_lt_of_le hg6l hg13.size) (And.intro hgM9 (And.intro (Nat.lt_of_lt_of_le hg9l hg13.size) hb13))))))
      rw [Hlx.out, Hly.out] at HF
      have HL1 : Hid ((axis lx).length = (axis (crd ax bx (frP fs) n)).length) := hide (by rw [Hlx.out])
      have HL2 : Hid ((axis ly).length = (axis (crd ay bY (frQ fs) n)).length) := hide (by rw [Hly.out])
      clear hC2 Hx12 Hb12 hg13 hx13 hb13 hy13
      go_wp2_with fail
      go_ret2
      exact ⟨g6, c6, g9, c9, by rw [HL1.out, HL2.out]; rfl, HF.out⟩
end Go.Proofs.Ytegmokdhfmgdgaa.Rt
