/- The contract of (*heap).pop. -/
import Derived.Test.YtegmokdhfmgdgaaRtPush
namespace Go.Proofs.Ytegmokdhfmgdgaa.Rt
open Go.RowKit Go.Frm Go.Frm.Rt

theorem own_takeF {w : World} {base n c size : Nat} {e : TypeId} {A : Option Addr} {f : Nat → Nat → Value} (h : w.ownsRow base e size (.slice A n c) n (rowF n size f)) {k : Nat} (hk : k ≤ n) : w.ownsRow base e size (.slice A k c) k (rowF k size f) := by
  have hlen : ∀ k n : Nat, k ≤ n → (rowF n size f).take (k * size) = rowF k size f := by
    intro k n hkn
    induction n with
    | zero => obtain rfl : k = 0 := by omega
              simp [rowF]
    | succ n ih =>
      by_cases hkn2 : k = n + 1
      · subst hkn2
        rw [List.take_of_length_le (by rw [rowF_length]; omega)]
      · rw [rowF_succ, List.take_append_of_le_length (by rw [rowF_length]; exact Nat.mul_le_mul_right _ (by omega))]
        exact ih (by omega)
  refine ⟨rowF_length _ _ _, ?_⟩
  rcases h.2 with ⟨h1, h2⟩ | ⟨g, cap, cur, h1, h2, h3, h4, h5, h6, h7⟩
  · left
    cases h1
    obtain rfl : k = 0 := by omega
    exact ⟨rfl, rfl⟩
  · right
    injection h1 with h8 _ h9
    subst h8 h9
    refine ⟨g, c, cur, rfl, h2, h3, by omega, h5, h6, ?_⟩
    have h10 := congrArg (List.take (k * size)) h7
    rw [List.take_take, Nat.min_eq_left (Nat.mul_le_mul_right _ hk), hlen k n hk] at h10
    exact h10

theorem far6n {w : World} {g k p m : Nat} {v v0 v1 v2 v3 v4 v5 : Value} (h : w.cell? ⟨g, p * 6 + m, none⟩ = some v) (hkp : p ≠ k) (hm : m < 6) : (put6 w g (k * 6) v0 v1 v2 v3 v4 v5).drew.cell? ⟨g, p * 6 + m, none⟩ = some v :=
  (cell_drew _ _).trans (cell_other (cell_other (cell_other (cell_other (cell_other (cell_other h (by omega)) (by omega)) (by omega)) (by omega)) (by omega)) (by omega))
theorem far6n0 {w : World} {g k p : Nat} {v v0 v1 v2 v3 v4 v5 : Value} (h : w.cell? ⟨g, p * 6, none⟩ = some v) (hkp : p ≠ k) : (put6 w g (k * 6) v0 v1 v2 v3 v4 v5).drew.cell? ⟨g, p * 6, none⟩ = some v := far6n (m := 0) h hkp (by decide)
theorem results_cell1 {fn : Func} {p : Tmp} {ty : TypeId} (h : fn.results = #[.cell p ty]) (tmps : Array Value) (P : Program) (w : World) : (results fn tmps).run P w = ((do loadVar ty (← asAddr (tmps.getD p undef)) : Sem Value)).run P w := by
  simp [results, h]
theorem own_setNe {w : World} {base n c gg size : Nat} {e : TypeId} {xs : List Value} (h : w.ownsRow base e size (.slice (some ⟨gg, 0, none⟩) n c) n xs) {p : Addr} (hp : gg ≠ p.block) (u : Value) : (w.setCell p u).ownsRow base e size (.slice (some ⟨gg, 0, none⟩) n c) n xs := by
  refine ⟨h.1, ?_⟩
  rcases h.2 with h2 | ⟨g1, cap, cur, h1, h2, h3, h4⟩
  · exact .inl h2
  · have e1 : g1 = gg := by
      injection h1 with h1
      injection h1 with h1
      injection h1 with h1
      exact h1.symm
    subst e1
    exact .inr ⟨g1, cap, cur, h1, h2, (Below.heap_setCell w p u g1 hp).trans h3, h4⟩
theorem own_putNe {w : World} {base n c gg size g : Nat} {e : TypeId} {xs : List Value} (h : w.ownsRow base e size (.slice (some ⟨gg, 0, none⟩) n c) n xs) (hp : gg ≠ g) (o : Nat) (v0 v1 v2 v3 v4 v5 : Value) : (put6 w g o v0 v1 v2 v3 v4 v5).ownsRow base e size (.slice (some ⟨gg, 0, none⟩) n c) n xs :=
  own_setNe (own_setNe (own_setNe (own_setNe (own_setNe (own_setNe h (p := ⟨g, o, none⟩) hp v0) (p := ⟨g, o + 1, none⟩) hp v1) (p := ⟨g, o + 2, none⟩) hp v2) (p := ⟨g, o + 3, none⟩) hp v3) (p := ⟨g, o + 4, none⟩) hp v4) (p := ⟨g, o + 5, none⟩) hp v5
structure PopW (w wr : World) (base gg n c b G : Nat) (cs : Array Value) (t : St) (f2 : Nat → St) : Prop where
  own : wr.ownsRow base 61 6 (.slice (some ⟨gg, 0, none⟩) n c) n (rowF n 6 (stF f2))
  grid : Blk wr b 53 cs
  res : Blk wr G 61 #[.int .i64 0, .int .i64 0, .int .i64 0, .int .i64 0, .int .i64 0, .int .i64 0]
  fst : Blk wr (G + 1) 61 #[.int .i64 (t.x : Nat), .int .i64 (t.y : Nat), .int .i64 (t.d : Nat), .int .i64 t.co.b, .int .i64 t.co.l, .int .i64 t.back]
  chg : Chg (Two b (Value.ownBlock (.slice (some ⟨gg, 0, none⟩) (n + 1) c))) w wr
theorem PopW.drewN {w wr : World} {base gg n c b G : Nat} {cs : Array Value} {t : St} {f2 : Nat → St} (h : PopW w wr base gg n c b G cs t f2) (k : Nat) : PopW w (wr.drewN k) base gg n c b G cs t f2 :=
  ⟨own_drewN h.own k, h.grid.drewN k, h.res.drewN k, h.fst.drewN k, h.chg.drewN k⟩
theorem PopW.below {w wr wx : World} {base gg n c b G : Nat} {cs : Array Value} {t : St} {f2 : Nat → St} (h : PopW w wr base gg n c b G cs t f2) (hb : Below wr.heap.size wr wx) : PopW w wx base gg n c b G cs t f2 :=
  ⟨own_below h.own hb, h.grid.below hb h.grid.lt, h.res.below hb h.res.lt, h.fst.below hb h.fst.lt, h.chg.below hb⟩
theorem PopW.swap {w wr : World} {base gg n c b G : Nat} {cs : Array Value} {t : St} {f2 : Nat → St} (h : PopW w wr base gg n c b G cs t f2) (hb : b ≠ gg) (hG : G ≠ gg) (hG1 : G + 1 ≠ gg) {k m : Nat} (hkm : k ≠ m) :
    PopW w (put6 (put6 wr gg (k * 6) (.int .i64 ((f2 m).x : Nat)) (.int .i64 ((f2 m).y : Nat)) (.int .i64 ((f2 m).d : Nat)) (.int .i64 (f2 m).co.b) (.int .i64 (f2 m).co.l) (.int .i64 (f2 m).back)) gg (m * 6) (.int .i64 ((f2 k).x : Nat)) (.int .i64 ((f2 k).y : Nat)) (.int .i64 ((f2 k).d : Nat)) (.int .i64 (f2 k).co.b) (.int .i64 (f2 k).co.l) (.int .i64 (f2 k).back)) base gg n c b G cs t (swp f2 k m) := by
  have h1 := own_put (own_put h.own k (f2 m)) m (f2 k)
  rw [swp_upd f2 k m hkm] at h1
  exact ⟨h1, blk_put (blk_put h.grid hb _ _ _ _ _ _ _) hb _ _ _ _ _ _ _, blk_put (blk_put h.res hG _ _ _ _ _ _ _) hG _ _ _ _ _ _ _, blk_put (blk_put h.fst hG1 _ _ _ _ _ _ _) hG1 _ _ _ _ _ _ _, chg_put (chg_put h.chg (.inl (.inr rfl)) _ _ _ _ _ _ _) (.inl (.inr rfl)) _ _ _ _ _ _ _⟩
section
variable {w : World} {b base n c : Nat} {A : Option Addr} {cs : Array Value} {f : Nat → St}
set_option maxRecDepth 100000 in
set_option maxHeartbeats 8000000 in
theorem pop_ok (hB : Blk w b 53 cs) (hs : cs.size = 6) (hc : cs[4]? = some (.slice A (n + 1) c)) (hb : b < base) (hbs : base ≤ w.heap.size) (hn : n ≤ 10000000)
    (hown : w.ownsRow base 61 6 (.slice A (n + 1) c) (n + 1) (rowF (n + 1) 6 (stF f))) (hh : HP (n + 1) f) :
    Calls Try.prog 22 #[.pointer (some ⟨b, 4, none⟩)] w fun e w' => e = .returned (.agg (stC (f 0))) ∧ ∃ f', Blk w' b 53 (cs.setIfInBounds 4 (.slice A n c)) ∧
      w'.ownsRow base 61 6 (.slice A n c) n (rowF n 6 (stF f')) ∧ HP n f' ∧ (∀ t, Mem n f' t → Mem (n + 1) f t) ∧ (∀ t, Mem (n + 1) f t → Mem n f' t ∨ t = f 0) ∧ Chg (Two b (Value.ownBlock (.slice A (n + 1) c))) w w' := by
  obtain ⟨gg, rfl, hgb⟩ := own_at hown (by omega)
  have p0 : w.cell? ⟨b, 4, none⟩ = some (.slice (some ⟨gg, 0, none⟩) (n + 1) c) := by rw [hB.cell]; exact hc
  have pf := hB.frozen 4
  obtain ⟨zc0, zc1, zc2, zc3, zc4, zc5⟩ := own_cells hown (i := 0) (by omega)
  obtain ⟨ec0, ec1, ec2, ec3, ec4, ec5⟩ := own_cells hown (i := n) (by omega)
  have HD0 := hide (Dn.start hh)
  have HM0 := hide (mem_pop (n := n) (f := f))
  have hcap := own_cap hown
  have Hc := hide hc
  have hbg : b ≠ gg := by omega
  have n0 : (0 : Int) ≤ (n : Int) := by omega
  have n1 : (n : Int) < ((n + 1 : Nat) : Int) := by omega
  have n2 : ((n + 1 : Nat) : Int) - 1 = (n : Int) := by omega
  have hbl := hB.lt
  have hgl : gg < w.heap.size := World.block_lt_of_cell? _ _ zc0
  clear hh hc
  go_enter Try.func22, Try.ntmps22
  go_upto_region 4 with fail
  have hR := (Blk.new w 61 #[.int .i64 0, .int .i64 0, .int .i64 0, .int .i64 0, .int .i64 0, .int .i64 0]).alloc (.cells #[.int .i64 ((f 0).x : Nat), .int .i64 ((f 0).y : Nat), .int .i64 ((f 0).d : Nat), .int .i64 (f 0).co.b, .int .i64 (f 0).co.l, .int .i64 (f 0).back] 61)
  have hF := Blk.new (w.alloc (.cells #[.int .i64 0, .int .i64 0, .int .i64 0, .int .i64 0, .int .i64 0, .int .i64 0] 61)) 61 #[.int .i64 ((f 0).x : Nat), .int .i64 ((f 0).y : Nat), .int .i64 ((f 0).d : Nat), .int .i64 (f 0).co.b, .int .i64 (f 0).co.l, .int .i64 (f 0).back]
  rw [hsz_alloc] at hF
  have hB1 := (hB.alloc (.cells #[.int .i64 0, .int .i64 0, .int .i64 0, .int .i64 0, .int .i64 0, .int .i64 0] 61)).alloc (.cells #[.int .i64 ((f 0).x : Nat), .int .i64 ((f 0).y : Nat), .int .i64 ((f 0).d : Nat), .int .i64 (f 0).co.b, .int .i64 (f 0).co.l, .int .i64 (f 0).back] 61)
  have ho1 := (hown.alloc (.cells #[.int .i64 0, .int .i64 0, .int .i64 0, .int .i64 0, .int .i64 0, .int .i64 0] 61)).alloc (.cells #[.int .i64 ((f 0).x : Nat), .int .i64 ((f 0).y : Nat), .int .i64 ((f 0).d : Nat), .int .i64 (f 0).co.b, .int .i64 (f 0).co.l, .int .i64 (f 0).back] 61)
  have hcg := ((Chg.refl (Two b (Value.ownBlock (.slice (some ⟨gg, 0, none⟩) (n + 1) c))) w).alloc (.cells #[.int .i64 0, .int .i64 0, .int .i64 0, .int .i64 0, .int .i64 0, .int .i64 0] 61)).alloc (.cells #[.int .i64 ((f 0).x : Nat), .int .i64 ((f 0).y : Nat), .int .i64 ((f 0).d : Nat), .int .i64 (f 0).co.b, .int .i64 (f 0).co.l, .int .i64 (f 0).back] 61)
  have HF0 : Hid (stC (f 0) = #[.int .i64 ((f 0).x : Nat), .int .i64 ((f 0).y : Nat), .int .i64 ((f 0).d : Nat), .int .i64 (f 0).co.b, .int .i64 (f 0).co.l, .int .i64 (f 0).back]) := hide rfl
  generalize (w.alloc (.cells #[.int .i64 0, .int .i64 0, .int .i64 0, .int .i64 0, .int .i64 0, .int .i64 0] 61)).alloc (.cells #[.int .i64 ((f 0).x : Nat), .int .i64 ((f 0).y : Nat), .int .i64 ((f 0).d : Nat), .int .i64 (f 0).co.b, .int .i64 (f 0).co.l, .int .i64 (f 0).back] 61) = w1 at *
  obtain ⟨G, hG⟩ : ∃ G, Hid (G = w.heap.size) := ⟨_, rfl⟩
  rw [← hG.out] at hR hF
  rw [← hG.out]
  obtain ⟨ec0, ec1, ec2, ec3, ec4, ec5⟩ := own_cells ho1 (i := n) (by omega)
  obtain ⟨zc0, zc1, zc2, zc3, zc4, zc5⟩ := own_cells ho1 (i := 0) (by omega)
  have fz0 := World.ownsRow.frozenAt ho1 0
  have fz1 := World.ownsRow.frozenAt ho1 1
  have fz2 := World.ownsRow.frozenAt ho1 2
  have fz3 := World.ownsRow.frozenAt ho1 3
  have fz4 := World.ownsRow.frozenAt ho1 4
  have fz5 := World.ownsRow.frozenAt ho1 5
  have hgG : gg ≠ G := by have := hG.out; omega
  have hgG1 : G + 1 ≠ gg := by have := hG.out; omega
  have Ho2 := hide (own_takeF (own_put ho1 0 (f n)) (k := n) (by omega))
  have HB2 := hide (blk_put hB1 hbg (0 * 6) (.int .i64 ((f n).x : Nat)) (.int .i64 ((f n).y : Nat)) (.int .i64 ((f n).d : Nat)) (.int .i64 (f n).co.b) (.int .i64 (f n).co.l) (.int .i64 (f n).back))
  have HR2 := hide (blk_put hR (Ne.symm hgG) (0 * 6) (.int .i64 ((f n).x : Nat)) (.int .i64 ((f n).y : Nat)) (.int .i64 ((f n).d : Nat)) (.int .i64 (f n).co.b) (.int .i64 (f n).co.l) (.int .i64 (f n).back))
  have HF2 := hide (blk_put hF hgG1 (0 * 6) (.int .i64 ((f n).x : Nat)) (.int .i64 ((f n).y : Nat)) (.int .i64 ((f n).d : Nat)) (.int .i64 (f n).co.b) (.int .i64 (f n).co.l) (.int .i64 (f n).back))
  have HC2 := hide (chg_put hcg (g := gg) (.inl (.inr rfl)) (0 * 6) (.int .i64 ((f n).x : Nat)) (.int .i64 ((f n).y : Nat)) (.int .i64 ((f n).d : Nat)) (.int .i64 (f n).co.b) (.int .i64 (f n).co.l) (.int .i64 (f n).back))
  have hc0 : ¬ c = 0 := by omega
  have n3 : (n : Int) ≤ (c : Int) := by omega
  clear hR hF hB1 ho1 hcg p0 pf hB hown
  go_upto_block 0 with fail
  go_wp2_with fail
  go_loopw [6, 7] (fun a v7 wr => ∃ (k : Nat) (f2 : Nat → St), a = .int .i64 k ∧ k ≤ n ∧ Hid (Dn n f2 k) ∧ Hid (∀ t, Mem n f2 t → Mem (n + 1) f t) ∧ Hid (∀ t, Mem (n + 1) f t → Mem n f2 t ∨ t = f 0) ∧ Hid (PopW w wr base gg n c b G cs (f 0) f2)) (fun a _ _ => n - (intOf a).toNat)
  case atStart => exact ⟨0, upd f 0 (f n), rfl, Nat.zero_le _, HD0, hide HM0.out.1, hide HM0.out.2, hide ⟨Ho2.out, HB2.out, HR2.out, HF2.out, HC2.out⟩⟩
  case round =>
    clear Ho2 HB2 HR2 HF2 HC2 HD0 HM0 ec0 ec1 ec2 ec3 ec4 ec5 zc0 zc1 zc2 zc3 zc4 zc5 fz0 fz1 fz2 fz3 fz4 fz5
    obtain ⟨wo, rfl⟩ : ∃ wx : World, wx = wr := ⟨_, rfl⟩
    obtain ⟨k, f2, rfl, hkn, HD, HM1, HM2, HW⟩ := hrel
    by_cases hm : 2 * k + 1 < n
    · obtain ⟨m1, Hm1⟩ : ∃ m, Hid (m = 2 * k + 1) := ⟨_, rfl⟩
      have hm1 := Hm1.out
      have q1 : (2 : Int) * (k : Int) + 1 = (m1 : Int) := by omega
      have q2 : decide ((m1 : Int) ≥ (n : Int)) = false := decide_eq_false (by omega)
      have q3 : ¬ (n : Int) ≤ (m1 : Int) := by omega
      have q4 : (k : Int) ≤ 10000000 := by omega
      have q5 : (m1 : Int) < (n : Int) := by omega
      have q6 : (0 : Int) ≤ (m1 : Int) := by omega
      have q7 : (0 : Int) ≤ (k : Int) := by omega
      have q8 : (k : Int) < (n : Int) := by omega
      have q9 : IntKind.i64.wrap (m1 : Int) = (m1 : Int) := IntWalk.i64_in _ (by omega)
      have q10 : IntKind.i64.wrap (2 * (k : Int) + 1) = (m1 : Int) := by rw [q1, q9]
      have hkm1 : k < m1 := by omega
      have hm1n : m1 < n := by omega
      clear hm hm1
      go_upto_region 9 with fail
      go_cut [49] (fun v wc => ∃ r : Bool, v = .bool r ∧ Hid (r = true ↔ m1 + 1 < n ∧ Co.lt (f2 (m1 + 1)).co (f2 m1).co) ∧ Hid (PopW w wc base gg n c b G cs (f 0) f2))
      case first => as_aux_lemma =>
        have hown := HW.out.own
        by_cases hm2 : m1 + 1 < n
        · obtain ⟨m2, Hm2⟩ : ∃ m, Hid (m = m1 + 1) := ⟨_, rfl⟩
          have hm2e := Hm2.out
          have r1 : (m1 : Int) + 1 = (m2 : Int) := by omega
          have r5 : IntKind.i64.wrap (m2 : Int) = (m2 : Int) := IntWalk.i64_in _ (by omega)
          have r6 : IntKind.i64.wrap ((m1 : Int) + 1) = (m2 : Int) := by rw [r1, r5]
          have r2 : decide ((m2 : Int) < (n : Int)) = true := decide_eq_true (by omega)
          have r2n : decide (m2 < n) = true := decide_eq_true (by omega)
          have r3 : (m2 : Int) < (n : Int) := by omega
          have r4 : (0 : Int) ≤ (m2 : Int) := by omega
          obtain ⟨ac0, ac1, ac2, ac3, ac4, ac5⟩ := own_cells hown (i := m1) (by omega)
          obtain ⟨bc0, bc1, bc2, bc3, bc4, bc5⟩ := own_cells hown (i := m2) (by omega)
          have hl := fun wx => less_ok (f2 m2).co (f2 m1).co wx
          unfold coV at hl
          have Hlt := hide (ltB_iff (f2 m2).co (f2 m1).co)
          generalize ltB (f2 m2).co (f2 m1).co = r at *
          have hgl9 := World.block_lt_of_cell? _ _ ac0
          clear hm2 hm2e hown
          go_region_held3 (fun w' => w'.cell? ⟨gg, m2 * 6 + 3, none⟩ = some (.int .i64 (f2 m2).co.b) ∧ w'.cell? ⟨gg, m2 * 6 + 4, none⟩ = some (.int .i64 (f2 m2).co.l) ∧ w'.cell? ⟨gg, m1 * 6 + 3, none⟩ = some (.int .i64 (f2 m1).co.b) ∧ w'.cell? ⟨gg, m1 * 6 + 4, none⟩ = some (.int .i64 (f2 m1).co.l))
            (first | go_keep | (go_split_ands; refine ⟨?_, ?_, ?_, ?_⟩ <;> ((rw [hb9.cell hgl9]; assumption))))
            ((go_at_call 35; refine (hl _).mono ?_; rintro e9 w9 ⟨rfl, hb9⟩))
          all_goals (go_wp2_with fail; go_meet; exact ⟨r, rfl, hide ⟨fun h => ⟨by have := Hm2.out; omega, by rw [← Hm2.out]; exact Hlt.out.1 h⟩, fun h => Hlt.out.2 (by rw [Hm2.out]; exact h.2)⟩, hide ((HW.out.drewN 1).below hb9)⟩)
        · have r5 : IntKind.i64.wrap ((m1 : Int) + 1) = (m1 : Int) + 1 := IntWalk.i64_in _ (by omega)
          have r2 : decide ((m1 : Int) + 1 < (n : Int)) = false := decide_eq_false (by omega)
          have r3 : ¬ (m1 : Int) + 1 < (n : Int) := by omega
          have r4 : decide (m1 + 1 < n) = false := decide_eq_false (by omega)
          have HF : Hid (false = true ↔ m1 + 1 < n ∧ Co.lt (f2 (m1 + 1)).co (f2 m1).co) := hide ⟨fun h => (by cases h), fun h => absurd h.1 hm2⟩
          clear hm2 hown
          go_quiet (fail)
          go_wp2_with fail
          go_meet
          exact ⟨false, rfl, HF, hide (by first | exact HW.out | exact HW.out.drewN _)⟩
      case rest =>
        clear HW
        obtain ⟨r, rfl, Hr, HW⟩ := hcut
        have Hm : ∃ m : Nat, Hid (m = if r = true then m1 + 1 else m1) := ⟨_, rfl⟩
        obtain ⟨m, Hm⟩ := Hm
        have Hml : Hid (m < n) := hide (by
          have h1 := Hm.out
          by_cases h2 : r = true
          · rw [if_pos h2] at h1; have := (Hr.out.1 h2).1; omega
          · rw [if_neg h2] at h1; omega)
        have Hmk : Hid (par m = k ∧ k < m) := hide (by
          have h1 := Hm.out
          have h3 := Hm1.out
          unfold par
          split at h1 <;> omega)
        have Hbest : Hid (∀ i, 0 < i → i < n → par i = k → ¬ Co.lt (f2 i).co (f2 m).co) := hide (fun i h0 hi hp => by
          have h1 := Hm.out
          have h3 := Hm1.out
          rcases par_cases h0 hp with e | e
          · rw [show i = m1 by omega]
            by_cases h2 : r = true
            · rw [if_pos h2] at h1; rw [h1]; exact lt_asymm (Hr.out.1 h2).2
            · rw [if_neg h2] at h1; rw [h1]; exact not_lt_refl _
          · by_cases h2 : r = true
            · rw [if_pos h2] at h1; rw [show i = m by omega]; exact not_lt_refl _
            · rw [if_neg h2] at h1; rw [h1, show i = m1 + 1 by omega]; exact fun h => h2 (Hr.out.2 ⟨by omega, h⟩))
        obtain ⟨wp, rfl⟩ : ∃ wx : World, wx = wc := ⟨_, rfl⟩
        go_upto_if 49 with fail
        go_cut [7] (fun v wc => v = .int .i64 (m : Int) ∧ wp = wc)
        case first =>
          cases r with
          | true =>
            have r5 : IntKind.i64.wrap ((m1 : Int) + 1) = (m1 : Int) + 1 := IntWalk.i64_in _ (by have := Hml.out; omega)
            have HM : Hid ((m1 : Int) + 1 = (m : Int)) := hide (by have := Hm.out; simp at this; omega)
            go_wp2_with fail
            go_meet
            exact ⟨by rw [HM.out], rfl⟩
          | false =>
            have HM : Hid (m1 = m) := hide (by have := Hm.out; simp at this; omega)
            go_wp2_with fail
            go_meet
            exact ⟨by rw [HM.out], rfl⟩
        case rest =>
          obtain ⟨rfl, rfl⟩ := hcut
          have hml := Hml.out
          have hkm := Hmk.out.2
          clear q1 q2 q3 q4 q5 q6 q7 q8 q9 q10 Hm Hr Hm1 hm1n hkm1 Hml
          have hkl : k < n := by omega
          have s1 : (0 : Int) ≤ (m : Int) := by omega
          have s2 : (m : Int) < (n : Int) := by omega
          have s3 : (0 : Int) ≤ (k : Int) := by omega
          have s4 : (k : Int) < (n : Int) := by omega
          have hlm := fun wx => less_ok (f2 m).co (f2 k).co wx
          unfold coV at hlm
          have HltM := hide (ltB_iff (f2 m).co (f2 k).co)
          generalize ltB (f2 m).co (f2 k).co = s at *
          go_upto_region 11 with fail
          go_cut [63] (fun v wc => v = .bool (!s) ∧ Hid (PopW w wc base gg n c b G cs (f 0) f2))
          case first => as_aux_lemma =>
            obtain ⟨mc0, mc1, mc2, mc3, mc4, mc5⟩ := own_cells HW.out.own hml
            obtain ⟨kc0, kc1, kc2, kc3, kc4, kc5⟩ := own_cells HW.out.own hkl
            have hglM := World.block_lt_of_cell? _ _ mc0
            go_region_held3 (fun w' => w'.cell? ⟨gg, m * 6 + 3, none⟩ = some (.int .i64 (f2 m).co.b) ∧ w'.cell? ⟨gg, m * 6 + 4, none⟩ = some (.int .i64 (f2 m).co.l) ∧ w'.cell? ⟨gg, k * 6 + 3, none⟩ = some (.int .i64 (f2 k).co.b) ∧ w'.cell? ⟨gg, k * 6 + 4, none⟩ = some (.int .i64 (f2 k).co.l))
              (first | go_keep | (go_split_ands; refine ⟨?_, ?_, ?_, ?_⟩ <;> ((rw [hb7.cell hglM]; assumption))))
              ((go_at_call 35; refine (hlm _).mono ?_; rintro e7 w7 ⟨rfl, hb7⟩))
            all_goals (go_wp2_with fail; go_meet; exact ⟨rfl, hide ((HW.out.drewN 1).below hb7)⟩)
          case rest =>
            clear HW hlm
            obtain ⟨rfl, HW⟩ := hcut
            obtain ⟨wz, rfl⟩ : ∃ wx : World, wx = wc := ⟨_, rfl⟩
            cases s with
            | false =>
              have HH : HP n f2 := HD.out.done (fun i h0 hi hp => not_lt_trans (fun h => by have := HltM.out.2 h; cases this) (Hbest.out i h0 hi hp))
              have HH := hide HH
              clear HltM Hbest HD Hmk
              clear s1 s2 s3 s4 hkl hml hkm
              have hown := HW.out.own
              have hB := HW.out.grid
              have hR := HW.out.res
              have hF := HW.out.fst
              have Hcg := hide HW.out.chg
              have pf := hB.frozen 4
              have p0 : wz.cell? ⟨b, 4, none⟩ = some (.slice (some ⟨gg, 0, none⟩) (n + 1) c) := by rw [hB.cell]; exact Hc.out
              have y0 : wz.cell? ⟨G + 1, 0, none⟩ = some (.int .i64 ((f 0).x : Nat)) := hF.cell 0
              have y1 : wz.cell? ⟨G + 1, 1, none⟩ = some (.int .i64 ((f 0).y : Nat)) := hF.cell 1
              have y2 : wz.cell? ⟨G + 1, 2, none⟩ = some (.int .i64 ((f 0).d : Nat)) := hF.cell 2
              have y3 : wz.cell? ⟨G + 1, 3, none⟩ = some (.int .i64 (f 0).co.b) := hF.cell 3
              have y4 : wz.cell? ⟨G + 1, 4, none⟩ = some (.int .i64 (f 0).co.l) := hF.cell 4
              have y5 : wz.cell? ⟨G + 1, 5, none⟩ = some (.int .i64 (f 0).back) := hF.cell 5
              have z0 : wz.cell? ⟨G, 0, none⟩ = some (.int .i64 0) := hR.cell 0
              have z1 : wz.cell? ⟨G, 1, none⟩ = some (.int .i64 0) := hR.cell 1
              have z2 : wz.cell? ⟨G, 2, none⟩ = some (.int .i64 0) := hR.cell 2
              have z3 : wz.cell? ⟨G, 3, none⟩ = some (.int .i64 0) := hR.cell 3
              have z4 : wz.cell? ⟨G, 4, none⟩ = some (.int .i64 0) := hR.cell 4
              have z5 : wz.cell? ⟨G, 5, none⟩ = some (.int .i64 0) := hR.cell 5
              have zf0 := hR.frozen 0
              have zf1 := hR.frozen 1
              have zf2 := hR.frozen 2
              have zf3 := hR.frozen 3
              have zf4 := hR.frozen 4
              have zf5 := hR.frozen 5
              have hGb : b ≠ G := by have := hG.out; omega
              have hGb1 : b ≠ G + 1 := by have := hG.out; omega
              clear hown hB hR hF Hcg
              go_wp2_with fail
              (try simp only [Exit.inBlock, Exit.then])
              refine bodyPost_ret (v := .agg #[.int .i64 ((f 0).x : Nat), .int .i64 ((f 0).y : Nat), .int .i64 ((f 0).d : Nat), .int .i64 (f 0).co.b, .int .i64 (f 0).co.l, .int .i64 (f 0).back]) ?hres rfl ?_
              case hres => (rw [results_cell1 rfl]; go_simp)
              have HP1 := hide (own_putNe (own_setCell_low (a := ⟨b, 4, none⟩) HW.out.own hb (.slice (some ⟨gg, 0, none⟩) n c)) hgG 0 (.int .i64 ((f 0).x : Nat)) (.int .i64 ((f 0).y : Nat)) (.int .i64 ((f 0).d : Nat)) (.int .i64 (f 0).co.b) (.int .i64 (f 0).co.l) (.int .i64 (f 0).back))
              have HP2 := hide (blk_put (HW.out.grid.set_ 4 (.slice (some ⟨gg, 0, none⟩) n c)) hGb 0 (.int .i64 ((f 0).x : Nat)) (.int .i64 ((f 0).y : Nat)) (.int .i64 ((f 0).d : Nat)) (.int .i64 (f 0).co.b) (.int .i64 (f 0).co.l) (.int .i64 (f 0).back))
              have HP3 := hide (chg_put (HW.out.chg.setCell (p := ⟨b, 4, none⟩) (.inl (.inl rfl)) (.slice (some ⟨gg, 0, none⟩) n c)) (g := G) (.inr (by rw [hG.out]; omega)) 0 (.int .i64 ((f 0).x : Nat)) (.int .i64 ((f 0).y : Nat)) (.int .i64 ((f 0).d : Nat)) (.int .i64 (f 0).co.b) (.int .i64 (f 0).co.l) (.int .i64 (f 0).back))
              exact ⟨by rw [HF0.out], f2, HP2.out, HP1.out, HH.out, HM1.out, HM2.out, HP3.out⟩
            | true =>
              have HU2 := hide (HD.out.step (m := m) (by omega) hml Hmk.out.1 Hbest.out (HltM.out.1 rfl))
              have HM1b : Hid (∀ t, Mem n (swp f2 k m) t → Mem (n + 1) f t) := hide (fun t h => HM1.out t ((mem_swp hkl hml t).1 h))
              have HM2b : Hid (∀ t, Mem (n + 1) f t → Mem n (swp f2 k m) t ∨ t = f 0) := hide (fun t h => (HM2.out t h).imp_left (mem_swp hkl hml t).2)
              have Hset := hide ((HW.out.swap hbg (Ne.symm hgG) hgG1 (k := k) (m := m) (by omega)).drewN 1)
              have hownz := HW.out.own
              obtain ⟨kc0, kc1, kc2, kc3, kc4, kc5⟩ := own_cells hownz hkl
              obtain ⟨mc0, mc1, mc2, mc3, mc4, mc5⟩ := own_cells hownz hml
              obtain ⟨kx, Hkx⟩ : ∃ z : Int, Hid (z = ((f2 k).x : Nat)) := ⟨_, rfl⟩
              rw [← Hkx.out] at kc0
              obtain ⟨ky, Hky⟩ : ∃ z : Int, Hid (z = ((f2 k).y : Nat)) := ⟨_, rfl⟩
              rw [← Hky.out] at kc1
              obtain ⟨kd, Hkd⟩ : ∃ z : Int, Hid (z = ((f2 k).d : Nat)) := ⟨_, rfl⟩
              rw [← Hkd.out] at kc2
              obtain ⟨kb, Hkb⟩ : ∃ z : Int, Hid (z = (f2 k).co.b) := ⟨_, rfl⟩
              rw [← Hkb.out] at kc3
              obtain ⟨kl, Hkl⟩ : ∃ z : Int, Hid (z = (f2 k).co.l) := ⟨_, rfl⟩
              rw [← Hkl.out] at kc4
              obtain ⟨kr, Hkr⟩ : ∃ z : Int, Hid (z = (f2 k).back) := ⟨_, rfl⟩
              rw [← Hkr.out] at kc5
              obtain ⟨mx, Hmx⟩ : ∃ z : Int, Hid (z = ((f2 m).x : Nat)) := ⟨_, rfl⟩
              rw [← Hmx.out] at mc0
              obtain ⟨my, Hmy⟩ : ∃ z : Int, Hid (z = ((f2 m).y : Nat)) := ⟨_, rfl⟩
              rw [← Hmy.out] at mc1
              obtain ⟨md, Hmd⟩ : ∃ z : Int, Hid (z = ((f2 m).d : Nat)) := ⟨_, rfl⟩
              rw [← Hmd.out] at mc2
              obtain ⟨mb, Hmb⟩ : ∃ z : Int, Hid (z = (f2 m).co.b) := ⟨_, rfl⟩
              rw [← Hmb.out] at mc3
              obtain ⟨ml, Hml⟩ : ∃ z : Int, Hid (z = (f2 m).co.l) := ⟨_, rfl⟩
              rw [← Hml.out] at mc4
              obtain ⟨mr, Hmr⟩ : ∃ z : Int, Hid (z = (f2 m).back) := ⟨_, rfl⟩
              rw [← Hmr.out] at mc5
              rw [← Hkx.out, ← Hky.out, ← Hkd.out, ← Hkb.out, ← Hkl.out, ← Hkr.out, ← Hmx.out, ← Hmy.out, ← Hmd.out, ← Hmb.out, ← Hml.out, ← Hmr.out] at Hset
              have fk0 := World.ownsRow.frozenAt hownz (k * 6)
              have fk1 := World.ownsRow.frozenAt hownz (k * 6 + 1)
              have fk2 := World.ownsRow.frozenAt hownz (k * 6 + 2)
              have fk3 := World.ownsRow.frozenAt hownz (k * 6 + 3)
              have fk4 := World.ownsRow.frozenAt hownz (k * 6 + 4)
              have fk5 := World.ownsRow.frozenAt hownz (k * 6 + 5)
              have fm0 := World.ownsRow.frozenAt hownz (m * 6)
              have fm1 := World.ownsRow.frozenAt hownz (m * 6 + 1)
              have fm2 := World.ownsRow.frozenAt hownz (m * 6 + 2)
              have fm3 := World.ownsRow.frozenAt hownz (m * 6 + 3)
              have fm4 := World.ownsRow.frozenAt hownz (m * 6 + 4)
              have fm5 := World.ownsRow.frozenAt hownz (m * 6 + 5)
              have hmk : m ≠ k := by omega
              have hmm : k < m := hkm
              clear hownz HM1 HM2 HD HW Hbest HltM Hmk
              go_upto_region 12 with fail
              refine wp_region_listed (S := fun l w' => (l.getD 13 true = false → w'.cell? ⟨gg, k * 6, none⟩ = some (.int .i64 kx)) ∧ (l.getD 13 true = false → w'.cell? ⟨gg, k * 6 + 1, none⟩ = some (.int .i64 ky)) ∧ (l.getD 13 true = false → w'.cell? ⟨gg, k * 6 + 2, none⟩ = some (.int .i64 kd)) ∧ (l.getD 13 true = false → w'.cell? ⟨gg, k * 6 + 3, none⟩ = some (.int .i64 kb)) ∧ (l.getD 13 true = false → w'.cell? ⟨gg, k * 6 + 4, none⟩ = some (.int .i64 kl)) ∧ (l.getD 13 true = false → w'.cell? ⟨gg, k * 6 + 5, none⟩ = some (.int .i64 kr)) ∧ (l.getD 15 true = false → w'.cell? ⟨gg, m * 6, none⟩ = some (.int .i64 mx)) ∧ (l.getD 15 true = false → w'.cell? ⟨gg, m * 6 + 1, none⟩ = some (.int .i64 my)) ∧ (l.getD 15 true = false → w'.cell? ⟨gg, m * 6 + 2, none⟩ = some (.int .i64 md)) ∧ (l.getD 15 true = false → w'.cell? ⟨gg, m * 6 + 3, none⟩ = some (.int .i64 mb)) ∧ (l.getD 15 true = false → w'.cell? ⟨gg, m * 6 + 4, none⟩ = some (.int .i64 ml)) ∧ (l.getD 15 true = false → w'.cell? ⟨gg, m * 6 + 5, none⟩ = some (.int .i64 mr))) (by kernel_rfl) ?hSS (fun hHeld => ?_)
              case hSS => exact ⟨fun _ => kc0, fun _ => kc1, fun _ => kc2, fun _ => kc3, fun _ => kc4, fun _ => kc5, fun _ => mc0, fun _ => mc1, fun _ => mc2, fun _ => mc3, fun _ => mc4, fun _ => mc5⟩
              refine wpAnyL_take (i := 0) (v := ?vSn0) rfl (by kernel_rfl) (by kernel_rfl) (by kernel_rfl) (by kernel_rfl) (fun _ _ _ h => h) ?hsSn0 (Or.inl ⟨by rfl, ?hySn0⟩) (by assumption) (fun hHeld => ?_)
              case hsSn0 => (intro l w; (try dsimp only); simp only [Go.getD_set_ne true (show (0 : Nat) ≠ 13 by decide), Go.getD_set_ne true (show (0 : Nat) ≠ 15 by decide)])
              case hySn0 => (intro w hSw; obtain ⟨l, hl, hc, hSw⟩ := hSw; (try dsimp only at hSw); obtain ⟨cS0, cS1, cS2, cS3, cS4, cS5, cS6, cS7, cS8, cS9, cS10, cS11⟩ := hSw; clear hc hl; go_simp; try with_reducible rfl)
              try simp only [Act.put, List.getElem_toArray, List.getElem_cons_zero, List.getElem_cons_succ, List.setIfInBounds_toArray, List.set_cons_zero, List.set_cons_succ]
              refine wpAnyL_take (i := 1) (v := ?vSn1) rfl (by kernel_rfl) (by kernel_rfl) (by kernel_rfl) (by kernel_rfl) (fun _ _ _ h => h) ?hsSn1 (Or.inl ⟨by rfl, ?hySn1⟩) (by assumption) (fun hHeld => ?_)
              case hsSn1 => (intro l w; (try dsimp only); simp only [Go.getD_set_ne true (show (1 : Nat) ≠ 13 by decide), Go.getD_set_ne true (show (1 : Nat) ≠ 15 by decide)])
              case hySn1 => (intro w hSw; obtain ⟨l, hl, hc, hSw⟩ := hSw; (try dsimp only at hSw); obtain ⟨cS0, cS1, cS2, cS3, cS4, cS5, cS6, cS7, cS8, cS9, cS10, cS11⟩ := hSw; clear hc hl; go_simp; try with_reducible rfl)
              try simp only [Act.put, List.getElem_toArray, List.getElem_cons_zero, List.getElem_cons_succ, List.setIfInBounds_toArray, List.set_cons_zero, List.set_cons_succ]
              refine wpAnyL_take (i := 2) (v := ?vSn2) rfl (by kernel_rfl) (by kernel_rfl) (by kernel_rfl) (by kernel_rfl) (fun _ _ _ h => h) ?hsSn2 (Or.inl ⟨by rfl, ?hySn2⟩) (by assumption) (fun hHeld => ?_)
              case hsSn2 => (intro l w; (try dsimp only); simp only [Go.getD_set_ne true (show (2 : Nat) ≠ 13 by decide), Go.getD_set_ne true (show (2 : Nat) ≠ 15 by decide)])
              case hySn2 => (intro w hSw; obtain ⟨l, hl, hc, hSw⟩ := hSw; (try dsimp only at hSw); obtain ⟨cS0, cS1, cS2, cS3, cS4, cS5, cS6, cS7, cS8, cS9, cS10, cS11⟩ := hSw; clear hc hl; go_simp; try with_reducible rfl)
              try simp only [Act.put, List.getElem_toArray, List.getElem_cons_zero, List.getElem_cons_succ, List.setIfInBounds_toArray, List.set_cons_zero, List.set_cons_succ]
              refine wpAnyL_take (i := 3) (v := ?vSn3) rfl (by kernel_rfl) (by kernel_rfl) (by kernel_rfl) (by kernel_rfl) (fun _ _ _ h => h) ?hsSn3 (Or.inl ⟨by rfl, ?hySn3⟩) (by assumption) (fun hHeld => ?_)
              case hsSn3 => (intro l w; (try dsimp only); simp only [Go.getD_set_ne true (show (3 : Nat) ≠ 13 by decide), Go.getD_set_ne true (show (3 : Nat) ≠ 15 by decide)])
              case hySn3 => (intro w hSw; obtain ⟨l, hl, hc, hSw⟩ := hSw; (try dsimp only at hSw); obtain ⟨cS0, cS1, cS2, cS3, cS4, cS5, cS6, cS7, cS8, cS9, cS10, cS11⟩ := hSw; clear hc hl; go_simp; try with_reducible rfl)
              try simp only [Act.put, List.getElem_toArray, List.getElem_cons_zero, List.getElem_cons_succ, List.setIfInBounds_toArray, List.set_cons_zero, List.set_cons_succ]
              refine wpAnyL_take (i := 4) (v := ?vSn4) rfl (by kernel_rfl) (by kernel_rfl) (by kernel_rfl) (by kernel_rfl) (fun _ _ _ h => h) ?hsSn4 (Or.inl ⟨by rfl, ?hySn4⟩) (by assumption) (fun hHeld => ?_)
              case hsSn4 => (intro l w; (try dsimp only); simp only [Go.getD_set_ne true (show (4 : Nat) ≠ 13 by decide), Go.getD_set_ne true (show (4 : Nat) ≠ 15 by decide)])
              case hySn4 => (intro w hSw; obtain ⟨l, hl, hc, hSw⟩ := hSw; (try dsimp only at hSw); obtain ⟨cS0, cS1, cS2, cS3, cS4, cS5, cS6, cS7, cS8, cS9, cS10, cS11⟩ := hSw; clear hc hl; go_simp; try with_reducible rfl)
              try simp only [Act.put, List.getElem_toArray, List.getElem_cons_zero, List.getElem_cons_succ, List.setIfInBounds_toArray, List.set_cons_zero, List.set_cons_succ]
              refine wpAnyL_take (i := 5) (v := ?vSn5) rfl (by kernel_rfl) (by kernel_rfl) (by kernel_rfl) (by kernel_rfl) (fun _ _ _ h => h) ?hsSn5 (Or.inl ⟨by rfl, ?hySn5⟩) (by assumption) (fun hHeld => ?_)
              case hsSn5 => (intro l w; (try dsimp only); simp only [Go.getD_set_ne true (show (5 : Nat) ≠ 13 by decide), Go.getD_set_ne true (show (5 : Nat) ≠ 15 by decide)])
              case hySn5 => (intro w hSw; obtain ⟨l, hl, hc, hSw⟩ := hSw; (try dsimp only at hSw); obtain ⟨cS0, cS1, cS2, cS3, cS4, cS5, cS6, cS7, cS8, cS9, cS10, cS11⟩ := hSw; clear hc hl; go_simp; try with_reducible rfl)
              try simp only [Act.put, List.getElem_toArray, List.getElem_cons_zero, List.getElem_cons_succ, List.setIfInBounds_toArray, List.set_cons_zero, List.set_cons_succ]
              refine wpAnyL_take (i := 6) (v := ?vSn6) rfl (by kernel_rfl) (by kernel_rfl) (by kernel_rfl) (by kernel_rfl) (fun _ _ _ h => h) ?hsSn6 (Or.inl ⟨by rfl, ?hySn6⟩) (by assumption) (fun hHeld => ?_)
              case hsSn6 => (intro l w; (try dsimp only); simp only [Go.getD_set_ne true (show (6 : Nat) ≠ 13 by decide), Go.getD_set_ne true (show (6 : Nat) ≠ 15 by decide)])
              case hySn6 => (intro w hSw; obtain ⟨l, hl, hc, hSw⟩ := hSw; (try dsimp only at hSw); obtain ⟨cS0, cS1, cS2, cS3, cS4, cS5, cS6, cS7, cS8, cS9, cS10, cS11⟩ := hSw; clear hc hl; go_simp; try with_reducible rfl)
              try simp only [Act.put, List.getElem_toArray, List.getElem_cons_zero, List.getElem_cons_succ, List.setIfInBounds_toArray, List.set_cons_zero, List.set_cons_succ]
              refine wpAnyL_take (i := 7) (v := ?vSn7) rfl (by kernel_rfl) (by kernel_rfl) (by kernel_rfl) (by kernel_rfl) (fun _ _ _ h => h) ?hsSn7 (Or.inl ⟨by rfl, ?hySn7⟩) (by assumption) (fun hHeld => ?_)
              case hsSn7 => (intro l w; (try dsimp only); simp only [Go.getD_set_ne true (show (7 : Nat) ≠ 13 by decide), Go.getD_set_ne true (show (7 : Nat) ≠ 15 by decide)])
              case hySn7 => (intro w hSw; obtain ⟨l, hl, hc, hSw⟩ := hSw; (try dsimp only at hSw); obtain ⟨cS0, cS1, cS2, cS3, cS4, cS5, cS6, cS7, cS8, cS9, cS10, cS11⟩ := hSw; replace cS6 := cS6 (hc.waits 24 (by decide +kernel) hl); replace cS7 := cS7 (hc.waits 24 (by decide +kernel) hl); replace cS8 := cS8 (hc.waits 24 (by decide +kernel) hl); replace cS9 := cS9 (hc.waits 24 (by decide +kernel) hl); replace cS10 := cS10 (hc.waits 24 (by decide +kernel) hl); replace cS11 := cS11 (hc.waits 24 (by decide +kernel) hl); clear hc hl; go_simp; try with_reducible rfl)
              try simp only [Act.put, List.getElem_toArray, List.getElem_cons_zero, List.getElem_cons_succ, List.setIfInBounds_toArray, List.set_cons_zero, List.set_cons_succ]
              refine wpAnyL_take (i := 8) (v := ?vSn8) rfl (by kernel_rfl) (by kernel_rfl) (by kernel_rfl) (by kernel_rfl) (fun _ _ _ h => h) ?hsSn8 (Or.inl ⟨by rfl, ?hySn8⟩) (by assumption) (fun hHeld => ?_)
              case hsSn8 => (intro l w; (try dsimp only); simp only [Go.getD_set_ne true (show (8 : Nat) ≠ 13 by decide), Go.getD_set_ne true (show (8 : Nat) ≠ 15 by decide)])
              case hySn8 => (intro w hSw; obtain ⟨l, hl, hc, hSw⟩ := hSw; (try dsimp only at hSw); obtain ⟨cS0, cS1, cS2, cS3, cS4, cS5, cS6, cS7, cS8, cS9, cS10, cS11⟩ := hSw; clear hc hl; go_simp; try with_reducible rfl)
              try simp only [Act.put, List.getElem_toArray, List.getElem_cons_zero, List.getElem_cons_succ, List.setIfInBounds_toArray, List.set_cons_zero, List.set_cons_succ]
              refine wpAnyL_take (i := 9) (v := ?vSn9) rfl (by kernel_rfl) (by kernel_rfl) (by kernel_rfl) (by kernel_rfl) (fun _ _ _ h => h) ?hsSn9 (Or.inl ⟨by rfl, ?hySn9⟩) (by assumption) (fun hHeld => ?_)
              case hsSn9 => (intro l w; (try dsimp only); simp only [Go.getD_set_ne true (show (9 : Nat) ≠ 13 by decide), Go.getD_set_ne true (show (9 : Nat) ≠ 15 by decide)])
              case hySn9 => (intro w hSw; obtain ⟨l, hl, hc, hSw⟩ := hSw; (try dsimp only at hSw); obtain ⟨cS0, cS1, cS2, cS3, cS4, cS5, cS6, cS7, cS8, cS9, cS10, cS11⟩ := hSw; clear hc hl; go_simp; try with_reducible rfl)
              try simp only [Act.put, List.getElem_toArray, List.getElem_cons_zero, List.getElem_cons_succ, List.setIfInBounds_toArray, List.set_cons_zero, List.set_cons_succ]
              refine wpAnyL_take (i := 10) (v := ?vSn10) rfl (by kernel_rfl) (by kernel_rfl) (by kernel_rfl) (by kernel_rfl) (fun _ _ _ h => h) ?hsSn10 (Or.inl ⟨by rfl, ?hySn10⟩) (by assumption) (fun hHeld => ?_)
              case hsSn10 => (intro l w; (try dsimp only); simp only [Go.getD_set_ne true (show (10 : Nat) ≠ 13 by decide), Go.getD_set_ne true (show (10 : Nat) ≠ 15 by decide)])
              case hySn10 => (intro w hSw; obtain ⟨l, hl, hc, hSw⟩ := hSw; (try dsimp only at hSw); obtain ⟨cS0, cS1, cS2, cS3, cS4, cS5, cS6, cS7, cS8, cS9, cS10, cS11⟩ := hSw; clear hc hl; go_simp; try with_reducible rfl)
              try simp only [Act.put, List.getElem_toArray, List.getElem_cons_zero, List.getElem_cons_succ, List.setIfInBounds_toArray, List.set_cons_zero, List.set_cons_succ]
              refine wpAnyL_take (i := 11) (v := ?vSn11) rfl (by kernel_rfl) (by kernel_rfl) (by kernel_rfl) (by kernel_rfl) (fun _ _ _ h => h) ?hsSn11 (Or.inl ⟨by rfl, ?hySn11⟩) (by assumption) (fun hHeld => ?_)
              case hsSn11 => (intro l w; (try dsimp only); simp only [Go.getD_set_ne true (show (11 : Nat) ≠ 13 by decide), Go.getD_set_ne true (show (11 : Nat) ≠ 15 by decide)])
              case hySn11 => (intro w hSw; obtain ⟨l, hl, hc, hSw⟩ := hSw; (try dsimp only at hSw); obtain ⟨cS0, cS1, cS2, cS3, cS4, cS5, cS6, cS7, cS8, cS9, cS10, cS11⟩ := hSw; replace cS0 := cS0 (hc.waits 24 (by decide +kernel) hl); replace cS1 := cS1 (hc.waits 24 (by decide +kernel) hl); replace cS2 := cS2 (hc.waits 24 (by decide +kernel) hl); replace cS3 := cS3 (hc.waits 24 (by decide +kernel) hl); replace cS4 := cS4 (hc.waits 24 (by decide +kernel) hl); replace cS5 := cS5 (hc.waits 24 (by decide +kernel) hl); clear hc hl; go_simp; try with_reducible rfl)
              try simp only [Act.put, List.getElem_toArray, List.getElem_cons_zero, List.getElem_cons_succ, List.setIfInBounds_toArray, List.set_cons_zero, List.set_cons_succ]
              refine wpAnyL_take (i := 12) (v := ?vSn12) rfl (by kernel_rfl) (by kernel_rfl) (by kernel_rfl) (by kernel_rfl) (fun _ _ _ h => h) ?hsSn12 (Or.inl ⟨by rfl, ?hySn12⟩) (by assumption) (fun hHeld => ?_)
              case hsSn12 => (intro l w; (try dsimp only); simp only [Go.getD_set_ne true (show (12 : Nat) ≠ 13 by decide), Go.getD_set_ne true (show (12 : Nat) ≠ 15 by decide)])
              case hySn12 => (intro w hSw; obtain ⟨l, hl, hc, hSw⟩ := hSw; (try dsimp only at hSw); obtain ⟨cS0, cS1, cS2, cS3, cS4, cS5, cS6, cS7, cS8, cS9, cS10, cS11⟩ := hSw; clear hc hl; go_simp; try with_reducible rfl)
              try simp only [Act.put, List.getElem_toArray, List.getElem_cons_zero, List.getElem_cons_succ, List.setIfInBounds_toArray, List.set_cons_zero, List.set_cons_succ]
              refine wpAnyL_ready (rs := [13]) (by kernel_rfl) (by simp) (AllReadyL.cons rfl (fun K hK => ?_) AllReadyL.nil)
              go_simp
              refine hK.out _ _ ?hkSn13 (fun hHeld => ?_)
              case hkSn13 => exact ⟨fun h => absurd h (by first | decide | kernel_rfl), fun h => absurd h (by first | decide | kernel_rfl), fun h => absurd h (by first | decide | kernel_rfl), fun h => absurd h (by first | decide | kernel_rfl), fun h => absurd h (by first | decide | kernel_rfl), fun h => absurd h (by first | decide | kernel_rfl), fun _ => far6n0 (hHeld.2.2.2.2.2.2.1 (by first | decide | kernel_rfl)) hmk, fun _ => far6n (m := 1) (hHeld.2.2.2.2.2.2.2.1 (by first | decide | kernel_rfl)) hmk (by decide), fun _ => far6n (m := 2) (hHeld.2.2.2.2.2.2.2.2.1 (by first | decide | kernel_rfl)) hmk (by decide), fun _ => far6n (m := 3) (hHeld.2.2.2.2.2.2.2.2.2.1 (by first | decide | kernel_rfl)) hmk (by decide), fun _ => far6n (m := 4) (hHeld.2.2.2.2.2.2.2.2.2.2.1 (by first | decide | kernel_rfl)) hmk (by decide), fun _ => far6n (m := 5) (hHeld.2.2.2.2.2.2.2.2.2.2.2 (by first | decide | kernel_rfl)) hmk (by decide)⟩
              clear hK K
              try simp only [Act.put, List.getElem_toArray, List.getElem_cons_zero, List.getElem_cons_succ, List.setIfInBounds_toArray, List.set_cons_zero, List.set_cons_succ]
              refine wpAnyL_take (i := 14) (v := ?vSn14) rfl (by kernel_rfl) (by kernel_rfl) (by kernel_rfl) (by kernel_rfl) (fun _ _ _ h => h) ?hsSn14 (Or.inl ⟨by rfl, ?hySn14⟩) (by assumption) (fun hHeld => ?_)
              case hsSn14 => (intro l w; (try dsimp only); simp only [Go.getD_set_ne true (show (14 : Nat) ≠ 13 by decide), Go.getD_set_ne true (show (14 : Nat) ≠ 15 by decide)])
              case hySn14 => (intro w hSw; obtain ⟨l, hl, hc, hSw⟩ := hSw; (try dsimp only at hSw); obtain ⟨cS0, cS1, cS2, cS3, cS4, cS5, cS6, cS7, cS8, cS9, cS10, cS11⟩ := hSw; clear hc hl; go_simp; try with_reducible rfl)
              try simp only [Act.put, List.getElem_toArray, List.getElem_cons_zero, List.getElem_cons_succ, List.setIfInBounds_toArray, List.set_cons_zero, List.set_cons_succ]
              refine wpAnyL_ready (rs := [15]) (by kernel_rfl) (by simp) (AllReadyL.cons rfl (fun K hK => ?_) AllReadyL.nil)
              go_simp
              refine hK.out _ _ ?hkSn15 (fun hHeld => ?_)
              case hkSn15 => exact ⟨fun h => absurd h (by first | decide | kernel_rfl), fun h => absurd h (by first | decide | kernel_rfl), fun h => absurd h (by first | decide | kernel_rfl), fun h => absurd h (by first | decide | kernel_rfl), fun h => absurd h (by first | decide | kernel_rfl), fun h => absurd h (by first | decide | kernel_rfl), fun h => absurd h (by first | decide | kernel_rfl), fun h => absurd h (by first | decide | kernel_rfl), fun h => absurd h (by first | decide | kernel_rfl), fun h => absurd h (by first | decide | kernel_rfl), fun h => absurd h (by first | decide | kernel_rfl), fun h => absurd h (by first | decide | kernel_rfl)⟩
              clear hK K
              try simp only [Act.put, List.getElem_toArray, List.getElem_cons_zero, List.getElem_cons_succ, List.setIfInBounds_toArray, List.set_cons_zero, List.set_cons_succ]
              refine wpAnyL_done (by kernel_rfl) ?_ _
              go_wp2_with fail
              go_roundw
              case rel => exact ⟨m, swp f2 k m, rfl, by omega, HU2, HM1b, HM2b, Hset⟩
              case measure => (simp [intOf]; omega)
    · have HH : HP n f2 := HD.out.done (fun i h0 hi hp => by have := par_cases h0 hp; omega)
      have HH := hide HH
      have k1 : decide ((2 : Int) * (k : Int) + 1 ≥ (n : Int)) = true := decide_eq_true (by omega)
      have k2 : (n : Int) ≤ 2 * (k : Int) + 1 := by omega
      have k3 : (k : Int) ≤ 10000000 := by omega
      have hown := HW.out.own
      have hB := HW.out.grid
      have hR := HW.out.res
      have hF := HW.out.fst
      have Hcg := hide HW.out.chg
      have pf := hB.frozen 4
      have p0 : wo.cell? ⟨b, 4, none⟩ = some (.slice (some ⟨gg, 0, none⟩) (n + 1) c) := by rw [hB.cell]; exact Hc.out
      have y0 : wo.cell? ⟨G + 1, 0, none⟩ = some (.int .i64 ((f 0).x : Nat)) := hF.cell 0
      have y1 : wo.cell? ⟨G + 1, 1, none⟩ = some (.int .i64 ((f 0).y : Nat)) := hF.cell 1
      have y2 : wo.cell? ⟨G + 1, 2, none⟩ = some (.int .i64 ((f 0).d : Nat)) := hF.cell 2
      have y3 : wo.cell? ⟨G + 1, 3, none⟩ = some (.int .i64 (f 0).co.b) := hF.cell 3
      have y4 : wo.cell? ⟨G + 1, 4, none⟩ = some (.int .i64 (f 0).co.l) := hF.cell 4
      have y5 : wo.cell? ⟨G + 1, 5, none⟩ = some (.int .i64 (f 0).back) := hF.cell 5
      have z0 : wo.cell? ⟨G, 0, none⟩ = some (.int .i64 0) := hR.cell 0
      have z1 : wo.cell? ⟨G, 1, none⟩ = some (.int .i64 0) := hR.cell 1
      have z2 : wo.cell? ⟨G, 2, none⟩ = some (.int .i64 0) := hR.cell 2
      have z3 : wo.cell? ⟨G, 3, none⟩ = some (.int .i64 0) := hR.cell 3
      have z4 : wo.cell? ⟨G, 4, none⟩ = some (.int .i64 0) := hR.cell 4
      have z5 : wo.cell? ⟨G, 5, none⟩ = some (.int .i64 0) := hR.cell 5
      have zf0 := hR.frozen 0
      have zf1 := hR.frozen 1
      have zf2 := hR.frozen 2
      have zf3 := hR.frozen 3
      have zf4 := hR.frozen 4
      have zf5 := hR.frozen 5
      have hGb : b ≠ G := by have := hG.out; omega
      have hGb1 : b ≠ G + 1 := by have := hG.out; omega
      clear hown hB hR hF Hcg
      go_wp2_with fail
      (try simp only [Exit.inBlock, Exit.then])
      refine bodyPost_ret (v := .agg #[.int .i64 ((f 0).x : Nat), .int .i64 ((f 0).y : Nat), .int .i64 ((f 0).d : Nat), .int .i64 (f 0).co.b, .int .i64 (f 0).co.l, .int .i64 (f 0).back]) ?hres rfl ?_
      case hres => (rw [results_cell1 rfl]; go_simp)
      have HP1 := hide (own_putNe (own_setCell_low (a := ⟨b, 4, none⟩) HW.out.own hb (.slice (some ⟨gg, 0, none⟩) n c)) hgG 0 (.int .i64 ((f 0).x : Nat)) (.int .i64 ((f 0).y : Nat)) (.int .i64 ((f 0).d : Nat)) (.int .i64 (f 0).co.b) (.int .i64 (f 0).co.l) (.int .i64 (f 0).back))
      have HP2 := hide (blk_put (HW.out.grid.set_ 4 (.slice (some ⟨gg, 0, none⟩) n c)) hGb 0 (.int .i64 ((f 0).x : Nat)) (.int .i64 ((f 0).y : Nat)) (.int .i64 ((f 0).d : Nat)) (.int .i64 (f 0).co.b) (.int .i64 (f 0).co.l) (.int .i64 (f 0).back))
      have HP3 := hide (chg_put (HW.out.chg.setCell (p := ⟨b, 4, none⟩) (.inl (.inl rfl)) (.slice (some ⟨gg, 0, none⟩) n c)) (g := G) (.inr (by rw [hG.out]; omega)) 0 (.int .i64 ((f 0).x : Nat)) (.int .i64 ((f 0).y : Nat)) (.int .i64 ((f 0).d : Nat)) (.int .i64 (f 0).co.b) (.int .i64 (f 0).co.l) (.int .i64 (f 0).back))
      exact ⟨by rw [HF0.out], f2, HP2.out, HP1.out, HH.out, HM1.out, HM2.out, HP3.out⟩
end
end Go.Proofs.Ytegmokdhfmgdgaa.Rt
