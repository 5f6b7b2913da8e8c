/- The contract of (*heap).push. -/
import Derived.Test.YtegmokdhfmgdgaaRtMem
import Derived.Test.YtegmokdhfmgdgaaListed
import Derived.Deep.CutBlock
import Derived.StillTailTactics
namespace Go.Proofs.Ytegmokdhfmgdgaa.Rt
open Go.RowKit Go.Frm Go.Frm.Rt

theorem stF_push (f : Nat → St) (n : Nat) (s : St) : rowF (n + 1) 6 (stF (upd f n s)) = rowF n 6 (stF f) ++ (stC s).toList := by
  rw [rowF_succ, rowF_congr (f := stF (upd f n s)) (g := stF f) (fun i j hi _ => by unfold stF; rw [upd_other _ _ (by omega)])]
  congr 1
  simp [stF, stC, upd_same, List.range_succ]
/-- what a push or a pop may change: the block in which the heap stands, and the heap's own block -/
def Two (b : Nat) (row : Option Nat) (k : Nat) : Prop := k = b ∨ some k = row
theorem par_int (k : Nat) : IntKind.i64.wrap (Int.tdiv (k : Int) 2) = ((k / 2 : Nat) : Int) ∨ 9223372036854775807 < k := by
  by_cases h : 9223372036854775807 < k
  · exact .inr h
  · left
    have e : Int.tdiv (k : Int) 2 = ((k / 2 : Nat) : Int) := by rw [Int.tdiv_eq_ediv_of_nonneg (by omega)]; omega
    rw [e]
    exact IntWalk.i64_in _ (by omega)
/-- six cells are stored -/
abbrev put6 (w : World) (g o : Nat) (v0 v1 v2 v3 v4 v5 : Value) : World := (((((w.setCell ⟨g, o, none⟩ v0).setCell ⟨g, o + 1, none⟩ v1).setCell ⟨g, o + 2, none⟩ v2).setCell ⟨g, o + 3, none⟩ v3).setCell ⟨g, o + 4, none⟩ v4).setCell ⟨g, o + 5, none⟩ v5
theorem far6 {w : World} {g k p m : Nat} {v v0 v1 v2 v3 v4 v5 : Value} (h : w.cell? ⟨g, p * 6 + m, none⟩ = some v) (hkp : p < k) (hm : m < 6) : (put6 w g (k * 6) v0 v1 v2 v3 v4 v5).cell? ⟨g, p * 6 + m, none⟩ = some v :=
  cell_other (cell_other (cell_other (cell_other (cell_other (cell_other h (by omega)) (by omega)) (by omega)) (by omega)) (by omega)) (by omega)
theorem cell_drew (w : World) (p : Addr) : w.drew.cell? p = w.cell? p := rfl
theorem far6d {w : World} {g k p m : Nat} {v v0 v1 v2 v3 v4 v5 : Value} (h : w.cell? ⟨g, p * 6 + m, none⟩ = some v) (hkp : p < k) (hm : m < 6) : (put6 w g (k * 6) v0 v1 v2 v3 v4 v5).drew.cell? ⟨g, p * 6 + m, none⟩ = some v := (cell_drew _ _).trans (far6 h hkp hm)
theorem far60 {w : World} {g k p : Nat} {v v0 v1 v2 v3 v4 v5 : Value} (h : w.cell? ⟨g, p * 6, none⟩ = some v) (hkp : p < k) : (put6 w g (k * 6) v0 v1 v2 v3 v4 v5).drew.cell? ⟨g, p * 6, none⟩ = some v := (cell_drew _ _).trans (far6 (m := 0) h hkp (by decide))
theorem own_put {w : World} {base n c g : Nat} {f : Nat → St} (h : w.ownsRow base 61 6 (.slice (some ⟨g, 0, none⟩) n c) n (rowF n 6 (stF f))) (i : Nat) (s : St) :
    (put6 w g (i * 6) (.int .i64 (s.x : Nat)) (.int .i64 (s.y : Nat)) (.int .i64 (s.d : Nat)) (.int .i64 s.co.b) (.int .i64 s.co.l) (.int .i64 s.back)).ownsRow base 61 6 (.slice (some ⟨g, 0, none⟩) n c) n (rowF n 6 (stF (upd f i s))) := by
  have h6 := own_storeF (own_storeF (own_storeF (own_storeF (own_storeF (own_storeF h i (j := 0) (by omega) (.int .i64 (s.x : Nat))) i (j := 1) (by omega) (.int .i64 (s.y : Nat))) i (j := 2) (by omega) (.int .i64 (s.d : Nat))) i (j := 3) (by omega) (.int .i64 s.co.b)) i (j := 4) (by omega) (.int .i64 s.co.l)) i (j := 5) (by omega) (.int .i64 s.back)
  rw [rowF_congr (g := stF (upd f i s)) (fun a j ha hj => by
    have e6 : j = 0 ∨ j = 1 ∨ j = 2 ∨ j = 3 ∨ j = 4 ∨ j = 5 := by omega
    unfold upd2 stF upd
    rcases e6 with rfl | rfl | rfl | rfl | rfl | rfl <;> by_cases h1 : a = i <;> simp [h1])] at h6
  exact h6
theorem chg_put {D : Nat → Prop} {a w : World} {g : Nat} (h : Chg D a w) (hg : D g ∨ a.heap.size ≤ g) (o : Nat) (v0 v1 v2 v3 v4 v5 : Value) : Chg D a (put6 w g o v0 v1 v2 v3 v4 v5) :=
  (((((h.setCell (p := ⟨g, o, none⟩) hg v0).setCell (p := ⟨g, o + 1, none⟩) hg v1).setCell (p := ⟨g, o + 2, none⟩) hg v2).setCell (p := ⟨g, o + 3, none⟩) hg v3).setCell (p := ⟨g, o + 4, none⟩) hg v4).setCell (p := ⟨g, o + 5, none⟩) hg v5
theorem blk_put {w : World} {b g : Nat} {t : TypeId} {cs : Array Value} (h : Blk w b t cs) (hg : b ≠ g) (o : Nat) (v0 v1 v2 v3 v4 v5 : Value) : Blk (put6 w g o v0 v1 v2 v3 v4 v5) b t cs :=
  (((((h.far (p := ⟨g, o, none⟩) hg v0).far (p := ⟨g, o + 1, none⟩) hg v1).far (p := ⟨g, o + 2, none⟩) hg v2).far (p := ⟨g, o + 3, none⟩) hg v3).far (p := ⟨g, o + 4, none⟩) hg v4).far (p := ⟨g, o + 5, none⟩) hg v5
theorem own_cells {w : World} {base n c g : Nat} {f : Nat → St} (h : w.ownsRow base 61 6 (.slice (some ⟨g, 0, none⟩) n c) n (rowF n 6 (stF f))) {i : Nat} (hi : i < n) :
    w.cell? ⟨g, i * 6, none⟩ = some (.int .i64 ((f i).x : Nat)) ∧ w.cell? ⟨g, i * 6 + 1, none⟩ = some (.int .i64 ((f i).y : Nat)) ∧ w.cell? ⟨g, i * 6 + 2, none⟩ = some (.int .i64 ((f i).d : Nat)) ∧
    w.cell? ⟨g, i * 6 + 3, none⟩ = some (.int .i64 (f i).co.b) ∧ w.cell? ⟨g, i * 6 + 4, none⟩ = some (.int .i64 (f i).co.l) ∧ w.cell? ⟨g, i * 6 + 5, none⟩ = some (.int .i64 (f i).back) :=
  ⟨own_cellF h (j := 0) hi (by omega), own_cellF h (j := 1) hi (by omega), own_cellF h (j := 2) hi (by omega), own_cellF h (j := 3) hi (by omega), own_cellF h (j := 4) hi (by omega), own_cellF h (j := 5) hi (by omega)⟩
theorem swp_upd (f : Nat → St) (a b : Nat) (h : a ≠ b) : upd (upd f a (f b)) b (f a) = swp f a b := by
  funext i
  unfold upd swp
  by_cases h1 : i = a
  · subst h1
    rw [if_neg h, if_pos rfl, if_pos rfl]
  · by_cases h2 : i = b
    · subst h2
      rw [if_pos rfl, if_neg h1, if_pos rfl]
    · rw [if_neg h2, if_neg h1, if_neg h1, if_neg h2]
section
variable {w : World} {b base n c : Nat} {A : Option Addr} {cs : Array Value} {f : Nat → St}
set_option maxRecDepth 100000 in
set_option maxHeartbeats 8000000 in
theorem push_ok (hB : Blk w b 53 cs) (hs : cs.size = 6) (hc : cs[4]? = some (.slice A n c)) (hb : b < base) (hbs : base ≤ w.heap.size) (hn : n ≤ 10000000)
    (hown : w.ownsRow base 61 6 (.slice A n c) n (rowF n 6 (stF f))) (hh : HP n f) (s : St) :
    Calls Try.prog 40 #[.pointer (some ⟨b, 4, none⟩), .agg (stC s)] w fun e w' => e = .returned (.tuple #[]) ∧ ∃ A' c' f', Blk w' b 53 (cs.setIfInBounds 4 (.slice A' (n + 1) c')) ∧
      w'.ownsRow base 61 6 (.slice A' (n + 1) c') (n + 1) (rowF (n + 1) 6 (stF f')) ∧ HP (n + 1) f' ∧ (∀ t, Mem (n + 1) f' t ↔ Mem n f t ∨ t = s) ∧ Chg (Two b (Value.ownBlock (.slice A n c))) w w' ∧ (∀ k, Value.ownBlock (.slice A' (n + 1) c') = some k → some k = Value.ownBlock (.slice A n c) ∨ w.heap.size ≤ k) := by
  have p0 : w.cell? ⟨b, 4, none⟩ = some (.slice A n c) := by rw [hB.cell]; exact hc
  have pf := hB.frozen 4
  have HU := hide (Up.start hh s)
  have HM := hide (fun t => mem_push (n := n) (f := f) (s := s) t)
  have HF := hide (stF_push f n s)
  have Hbx : Hid (stC s = #[.int .i64 (s.x : Nat), .int .i64 (s.y : Nat), .int .i64 (s.d : Nat), .int .i64 s.co.b, .int .i64 s.co.l, .int .i64 s.back]) := hide rfl
  have Hc := hide hc
  have Hs := hide hs
  clear hh hc hs
  obtain ⟨f1, Hf1⟩ : ∃ g, Hid (g = upd f n s) := ⟨_, rfl⟩
  rw [← Hf1.out] at HU HM HF
  obtain ⟨sx, Hsx⟩ : ∃ z : Int, Hid (z = (s.x : Nat)) := ⟨_, rfl⟩
  obtain ⟨sy, Hsy⟩ : ∃ z : Int, Hid (z = (s.y : Nat)) := ⟨_, rfl⟩
  obtain ⟨sd, Hsd⟩ : ∃ z : Int, Hid (z = (s.d : Nat)) := ⟨_, rfl⟩
  obtain ⟨sb, Hsb⟩ : ∃ z : Int, Hid (z = s.co.b) := ⟨_, rfl⟩
  obtain ⟨sl, Hsl⟩ : ∃ z : Int, Hid (z = s.co.l) := ⟨_, rfl⟩
  obtain ⟨sk, Hsk⟩ : ∃ z : Int, Hid (z = s.back) := ⟨_, rfl⟩
  rw [← Hsx.out, ← Hsy.out, ← Hsd.out, ← Hsb.out, ← Hsl.out, ← Hsk.out] at Hbx
  have ho1 := hown.alloc (.cells #[.int .i64 sx, .int .i64 sy, .int .i64 sd, .int .i64 sb, .int .i64 sl, .int .i64 sk] 61)
  have hB1 := hB.alloc (.cells #[.int .i64 sx, .int .i64 sy, .int .i64 sd, .int .i64 sb, .int .i64 sl, .int .i64 sk] 61)
  have hcg1 := (Chg.refl (Two b (Value.ownBlock (.slice A n c))) w).alloc (.cells #[.int .i64 sx, .int .i64 sy, .int .i64 sd, .int .i64 sb, .int .i64 sl, .int .i64 sk] 61)
  have hx := Blk.new w 61 #[.int .i64 sx, .int .i64 sy, .int .i64 sd, .int .i64 sb, .int .i64 sl, .int .i64 sk]
  have hsz1 : (w.alloc (.cells #[.int .i64 sx, .int .i64 sy, .int .i64 sd, .int .i64 sb, .int .i64 sl, .int .i64 sk] 61)).heap.size = w.heap.size + 1 := by simp
  have hbl := hB.lt
  obtain ⟨i0, hj0, hz0, hz1, hz2⟩ := info_parts st_info
  have hcap : n + 1 ≤ maxLen := by simp only [maxLen]; omega
  have hbyt : (n + 1) * 48 ≤ 140737488355328 := by omega
  have hlow := own_not_low hown hb
  rw [Hbx.out]
  go_enter Try.func40, Try.ntmps40
  go_upto_region 1 with fail
  have q0 : (w.alloc (.cells #[.int .i64 sx, .int .i64 sy, .int .i64 sd, .int .i64 sb, .int .i64 sl, .int .i64 sk] 61)).cell? ⟨b, 4, none⟩ = some (.slice A n c) := by rw [hB1.cell]; exact Hc.out
  have qf := hB1.frozen 4
  obtain ⟨g, Hg⟩ : ∃ g, Hid (g = w.heap.size) := ⟨_, rfl⟩
  rw [← Hg.out] at hx hsz1
  rw [← Hg.out]
  generalize w.alloc (.cells #[.int .i64 sx, .int .i64 sy, .int .i64 sd, .int .i64 sb, .int .i64 sl, .int .i64 sk] 61) = w1 at *
  have x0 : w1.cell? ⟨g, 0, none⟩ = some (.int .i64 sx) := hx.cell 0
  have x1 : w1.cell? ⟨g, 1, none⟩ = some (.int .i64 sy) := hx.cell 1
  have x2 : w1.cell? ⟨g, 2, none⟩ = some (.int .i64 sd) := hx.cell 2
  have x3 : w1.cell? ⟨g, 3, none⟩ = some (.int .i64 sb) := hx.cell 3
  have x4 : w1.cell? ⟨g, 4, none⟩ = some (.int .i64 sl) := hx.cell 4
  have x5 : w1.cell? ⟨g, 5, none⟩ = some (.int .i64 sk) := hx.cell 5
  clear p0 pf
  have hbs2 : base ≤ g := by rw [Hg.out]; exact hbs
  have hgx : some g ≠ (Value.slice A n c).ownBlock := fun e => by have := (hown.lt g e.symm).2; have := Hg.out; omega
  go_region_held3 (fun w' => w'.cell? ⟨b, 4, none⟩ = some (.slice A n c) ∧ w'.cell? ⟨g, 0, none⟩ = some (.int .i64 sx) ∧ w'.cell? ⟨g, 1, none⟩ = some (.int .i64 sy) ∧ w'.cell? ⟨g, 2, none⟩ = some (.int .i64 sd) ∧ w'.cell? ⟨g, 3, none⟩ = some (.int .i64 sb) ∧ w'.cell? ⟨g, 4, none⟩ = some (.int .i64 sl) ∧ w'.cell? ⟨g, 5, none⟩ = some (.int .i64 sk))
    (first | go_keep | (go_split_ands; refine ⟨?_, ?_, ?_, ?_, ?_, ?_, ?_⟩ <;> first | (rw [hgrow.cell_far _ (by simp; omega) hlow]; assumption) | (rw [hgrow.cell_far _ (by simp; omega) hgx]; assumption)))
    ((refine step_append_lies _ (by rfl) _ _ _ (by rfl) base 61 i0 _ 6 48 Try.underlying51 hj0 hz0 hz1 hz2 rfl (by omega) (.slice A n c) n (rowF n 6 (stF f)) (by rfl) (World.ownsRow.alloc (own_drewN ho1 1) _)
              ⟨g + 1, 0, none⟩ 1 1 [.int .i64 sx, .int .i64 sy, .int .i64 sd, .int .i64 sb, .int .i64 sl, .int .i64 sk] (by rfl) (by rfl) (World.news_of_block (cs := #[.int .i64 sx, .int .i64 sy, .int .i64 sd, .int .i64 sb, .int .i64 sl, .int .i64 sk]) (t := 61) (fr := (0, 0)) (by rw [← hsz1]; exact heap_alloc_new w1.drew _)) (by simp [Value.oneCell'])
              (by omega) hcap hbyt (by simp; omega) (g + 2) (by simp; omega) ?_; intro gg cap w6 hown6 hgrow hat hlt))
  have hB6 := ((hB1.drewN 1).alloc (.cells #[.int .i64 sx, .int .i64 sy, .int .i64 sd, .int .i64 sb, .int .i64 sl, .int .i64 sk] 61)).grown hgrow hlow
  have hcg6 := ((hcg1.drewN 1).alloc (.cells #[.int .i64 sx, .int .i64 sy, .int .i64 sd, .int .i64 sb, .int .i64 sl, .int .i64 sk] 61)).grown hgrow (fun k hk => .inl (.inr hk.symm))
  have Hgg : Hid (Two b (Value.ownBlock (.slice A n c)) gg ∨ w.heap.size ≤ gg) := hide (by
    rcases hat with h | h
    · exact .inl (.inr h.symm)
    · exact .inr (by rw [← Hg.out]; omega))
  have hgb : base ≤ gg := by
    obtain ⟨g2, e2, h2⟩ := own_at hown6 (by omega)
    injection e2 with e2
    injection e2 with e2
    omega
  have hbg : b ≠ gg := by omega
  rw [show rowF n 6 (stF f) ++ [Value.int .i64 sx, .int .i64 sy, .int .i64 sd, .int .i64 sb, .int .i64 sl, .int .i64 sk] = rowF (n + 1) 6 (stF f1) by rw [HF.out, Hbx.out]] at hown6
  clear HF Hbx ho1 hB1 hcg1 hx hsz1 q0 qf x0 x1 x2 x3 x4 x5 hgrow hat hlt hlow hgx Hsx Hsy Hsd Hsb Hsl Hsk hcap hbyt hj0 hz0 hz1 hz2 hB hown
  generalize hN : n + 1 = N at *
  have HN := hide hN
  have hN1 : (N : Int) - 1 = (n : Int) := by omega
  clear hN
  go_wp2_with fail
  go_loopw [5] (fun a wr => ∃ (k : Nat) (f2 : Nat → St), a = .int .i64 k ∧ Hid (Up (N) f2 k) ∧ Hid (∀ t, Mem (N) f2 t ↔ Mem n f t ∨ t = s) ∧ wr.ownsRow base 61 6 (.slice (some ⟨gg, 0, none⟩) (N) cap) (N) (rowF (N) 6 (stF f2)) ∧
    Blk wr b 53 cs ∧ Hid (Chg (Two b (Value.ownBlock (.slice A n c))) w wr)) (fun a _ => (intOf a).toNat)
  case atStart => exact ⟨n, f1, by go_num, HU, HM, hown6, hB6, hide hcg6⟩
  case round =>
    clear hown6 hB6 hcg6 HU HM Hf1 hN1
    obtain ⟨wo, rfl⟩ : ∃ wx : World, wx = wr := ⟨_, rfl⟩
    obtain ⟨k, f2, rfl, HU, HM, hown, hB, Hcg⟩ := hrel
    have hk := HU.out.1
    have hN := HN.out
    rcases Nat.eq_zero_or_pos k with hk0 | hk0
    · subst hk0
      have HH := hide (HU.out.done (.inl rfl))
      have pf := hB.frozen 4
      have p0 : wo.cell? ⟨b, 4, none⟩ = some (.slice A n c) := by rw [hB.cell]; exact Hc.out
      go_upto_region 3 with fail
      go_region
      go_wp2_with fail
      refine bodyPost_end (results_none rfl _ _ _) rfl ?_
      have hN := HN.out
      subst hN
      exact ⟨rfl, _, _, f2, hB.set_ 4 _, own_setCell_low (a := ⟨b, 4, none⟩) hown hb _, HH.out, HM.out, (Hcg.out.setCell (p := ⟨b, 4, none⟩) (.inl (.inl rfl)) _).drewN 1, fun k hk => by
        have h9 := Hgg.out
        simp only [Value.ownBlock, Option.map_some, Option.some.injEq] at hk
        subst hk
        rcases h9 with (h | h) | h
        · exact absurd h.symm hbg
        · exact .inl h
        · exact .inr h⟩
    · obtain ⟨k1, Hk1⟩ : ∃ k1, Hid (k = k1 + 1) := ⟨k - 1, hide (by omega)⟩
      obtain ⟨p, Hp⟩ : ∃ p, Hid (p = k1 / 2) := ⟨_, rfl⟩
      have hk1 := Hk1.out
      have hpp := Hp.out
      have hpk : par k = p := by unfold par; omega
      have hp2 : p < N := by omega
      obtain ⟨kc0, kc1, kc2, kc3, kc4, kc5⟩ := own_cells hown hk
      obtain ⟨pc0, pc1, pc2, pc3, pc4, pc5⟩ := own_cells hown hp2
      have HD := hide (HU.out.done)
      have HS := hide (HU.out.step hk0)
      have HMs := hide (fun t => mem_swp (f := f2) hk hp2 t)
      have Hsw := hide (swp_upd f2 k p (by omega))
      have Hw1 := hide (own_put (own_put hown (k) (f2 (p))) (p) (f2 (k)))
      rw [Hsw.out] at Hw1
      rw [hpk] at HD HS
      have Hlt := hide (ltB_iff (f2 (k)).co (f2 (p)).co)
      have hl := fun wx => less_ok (f2 (k)).co (f2 (p)).co wx
      unfold coV at hl
      generalize ltB (f2 (k)).co (f2 (p)).co = r at *
      obtain ⟨kx, Hkx⟩ : ∃ z : Int, Hid (z = ((f2 (k)).x : Nat)) := ⟨_, rfl⟩
      obtain ⟨ky, Hky⟩ : ∃ z : Int, Hid (z = ((f2 (k)).y : Nat)) := ⟨_, rfl⟩
      obtain ⟨kd, Hkd⟩ : ∃ z : Int, Hid (z = ((f2 (k)).d : Nat)) := ⟨_, rfl⟩
      obtain ⟨kb, Hkb⟩ : ∃ z : Int, Hid (z = (f2 (k)).co.b) := ⟨_, rfl⟩
      obtain ⟨kl, Hkl⟩ : ∃ z : Int, Hid (z = (f2 (k)).co.l) := ⟨_, rfl⟩
      obtain ⟨kr, Hkr⟩ : ∃ z : Int, Hid (z = (f2 (k)).back) := ⟨_, rfl⟩
      obtain ⟨px, Hpx⟩ : ∃ z : Int, Hid (z = ((f2 (p)).x : Nat)) := ⟨_, rfl⟩
      obtain ⟨py, Hpy⟩ : ∃ z : Int, Hid (z = ((f2 (p)).y : Nat)) := ⟨_, rfl⟩
      obtain ⟨pd, Hpd⟩ : ∃ z : Int, Hid (z = ((f2 (p)).d : Nat)) := ⟨_, rfl⟩
      obtain ⟨pb, Hpb⟩ : ∃ z : Int, Hid (z = (f2 (p)).co.b) := ⟨_, rfl⟩
      obtain ⟨pl, Hpl⟩ : ∃ z : Int, Hid (z = (f2 (p)).co.l) := ⟨_, rfl⟩
      obtain ⟨pr, Hpr⟩ : ∃ z : Int, Hid (z = (f2 (p)).back) := ⟨_, rfl⟩
      rw [← Hkx.out] at kc0
      rw [← Hky.out] at kc1
      rw [← Hkd.out] at kc2
      rw [← Hkb.out] at kc3
      rw [← Hkl.out] at kc4
      rw [← Hkr.out] at kc5
      rw [← Hpx.out] at pc0
      rw [← Hpy.out] at pc1
      rw [← Hpd.out] at pc2
      rw [← Hpb.out] at pc3
      rw [← Hpl.out] at pc4
      rw [← Hpr.out] at pc5
      rw [← Hkb.out, ← Hkl.out, ← Hpb.out, ← Hpl.out] at hl
      have i1 : (k : Int) - 1 = (k1 : Int) := by omega
      have i2 : (k1 : Int) / 2 = (p : Int) := by omega
      have i9 : (0 : Int) ≤ (k1 : Int) := by omega
      have i3 : (0 : Int) < (k : Int) := by omega
      have j0 : decide (0 < k) = true := decide_eq_true hk0
      have j1 : decide ((k : Int) > 0) = true := decide_eq_true i3
      have i4 : (k : Int) < (N : Int) := by omega
      have i5 : (0 : Int) ≤ (k : Int) := by omega
      have i6 : (p : Int) < (N : Int) := by omega
      have i7 : (0 : Int) ≤ (p : Int) := by omega
      have i8 : (k1 : Int) ≤ 10000000 := by omega
      have i10 : Int.tdiv (k1 : Int) 2 = (p : Int) := by rw [Int.tdiv_eq_ediv_of_nonneg (by omega)]; omega
      have i14 : IntKind.i64.wrap (p : Int) = (p : Int) := IntWalk.i64_in _ (by omega)
      have i11 : IntKind.i64.wrap (Int.tdiv (k1 : Int) 2) = (p : Int) := by rw [i10]; exact IntWalk.i64_in _ (by omega)
      have i12 : IntKind.i64.wrap (k1 : Int) = (k1 : Int) := IntWalk.i64_in _ (by omega)
      have i13 : IntKind.i64.wrap ((k : Int) - 1) = (k1 : Int) := by rw [i1, i12]
      have hgl := World.block_lt_of_cell? _ _ kc0
      clear HU hpk hk1 hpp hN
      go_upto_region 3 with fail
      go_region_held3 (fun w' => w'.cell? ⟨gg, (k) * 6 + 3, none⟩ = some (.int .i64 kb) ∧ w'.cell? ⟨gg, (k) * 6 + 4, none⟩ = some (.int .i64 kl) ∧ w'.cell? ⟨gg, p * 6 + 3, none⟩ = some (.int .i64 pb) ∧ w'.cell? ⟨gg, p * 6 + 4, none⟩ = some (.int .i64 pl))
        (first | go_keep | (go_split_ands; refine ⟨?_, ?_, ?_, ?_⟩ <;> ((rw [hb9.cell hgl]; assumption))))
        ((go_at_call 35; refine (hl _).mono ?_; rintro e9 w9 ⟨rfl, hb9⟩))
      have hownz := own_below (own_drewN hown 1) hb9
      have hBz := (hB.drewN 1).below hb9 hB.lt
      have Hcgz := hide ((Hcg.out.drewN 1).below hb9)
      have hgl9 := Nat.lt_of_lt_of_le hgl hb9.size
      clear kc0 kc1 kc2 kc3 kc4 kc5 pc0 pc1 pc2 pc3 pc4 pc5 hown hB Hcg hl Hw1 hb9 hgl
      cases r with
      | false =>
        have HH := hide (HD.out (.inr (fun h => by have := Hlt.out.2 h; cases this)))
        have pf := hBz.frozen 4
        have p0 : w9.cell? ⟨b, 4, none⟩ = some (.slice A n c) := by rw [hBz.cell]; exact Hc.out
        go_wp2_with fail
        refine bodyPost_end (results_none rfl _ _ _) rfl ?_
        have hN := HN.out
        subst hN
        exact ⟨rfl, _, _, f2, hBz.set_ 4 _, own_setCell_low (a := ⟨b, 4, none⟩) hownz hb _, HH.out, HM.out, Hcgz.out.setCell (p := ⟨b, 4, none⟩) (.inl (.inl rfl)) _, fun k hk => by
          have h9 := Hgg.out
          simp only [Value.ownBlock, Option.map_some, Option.some.injEq] at hk
          subst hk
          rcases h9 with (h | h) | h
          · exact absurd h.symm hbg
          · exact .inl h
          · exact .inr h⟩
      | true =>
        have HU2 : Hid (Up N (swp f2 k p) p) := hide (HS.out (Hlt.out.1 rfl))
        have HM2 : Hid (∀ t, Mem N (swp f2 k p) t ↔ Mem n f t ∨ t = s) := hide (fun t => (HMs.out t).trans (HM.out t))
        obtain ⟨kc0, kc1, kc2, kc3, kc4, kc5⟩ := own_cells hownz hk
        obtain ⟨pc0, pc1, pc2, pc3, pc4, pc5⟩ := own_cells hownz hp2
        rw [← Hkx.out] at kc0
        rw [← Hpx.out] at pc0
        rw [← Hky.out] at kc1
        rw [← Hpy.out] at pc1
        rw [← Hkd.out] at kc2
        rw [← Hpd.out] at pc2
        rw [← Hkb.out] at kc3
        rw [← Hpb.out] at pc3
        rw [← Hkl.out] at kc4
        rw [← Hpl.out] at pc4
        rw [← Hkr.out] at kc5
        rw [← Hpr.out] at pc5
        have hset1 := own_put (own_put hownz k (f2 p)) p (f2 k)
        rw [Hsw.out] at hset1
        rw [← Hkx.out, ← Hky.out, ← Hkd.out, ← Hkb.out, ← Hkl.out, ← Hkr.out, ← Hpx.out, ← Hpy.out, ← Hpd.out, ← Hpb.out, ← Hpl.out, ← Hpr.out] at hset1
        have hset2 := blk_put (blk_put hBz hbg (k * 6) (.int .i64 px) (.int .i64 py) (.int .i64 pd) (.int .i64 pb) (.int .i64 pl) (.int .i64 pr)) hbg (p * 6) (.int .i64 kx) (.int .i64 ky) (.int .i64 kd) (.int .i64 kb) (.int .i64 kl) (.int .i64 kr)
        have hset3 := chg_put (chg_put Hcgz.out Hgg.out (k * 6) (.int .i64 px) (.int .i64 py) (.int .i64 pd) (.int .i64 pb) (.int .i64 pl) (.int .i64 pr)) Hgg.out (p * 6) (.int .i64 kx) (.int .i64 ky) (.int .i64 kd) (.int .i64 kb) (.int .i64 kl) (.int .i64 kr)
        have Hset := hide (And.intro (own_drewN hset1 1) (And.intro (hset2.drewN 1) (hset3.drewN 1)))
        have fk0 := World.ownsRow.frozenAt hownz (k * 6)
        have fk1 := World.ownsRow.frozenAt hownz (k * 6 + 1)
        have fk2 := World.ownsRow.frozenAt hownz (k * 6 + 2)
        have fk3 := World.ownsRow.frozenAt hownz (k * 6 + 3)
        have fk4 := World.ownsRow.frozenAt hownz (k * 6 + 4)
        have fk5 := World.ownsRow.frozenAt hownz (k * 6 + 5)
        have fp0 := World.ownsRow.frozenAt hownz (p * 6)
        have fp1 := World.ownsRow.frozenAt hownz (p * 6 + 1)
        have fp2 := World.ownsRow.frozenAt hownz (p * 6 + 2)
        have fp3 := World.ownsRow.frozenAt hownz (p * 6 + 3)
        have fp4 := World.ownsRow.frozenAt hownz (p * 6 + 4)
        have fp5 := World.ownsRow.frozenAt hownz (p * 6 + 5)
        have hkp : p < k := by have := Hp.out; have := Hk1.out; omega
        clear hset1 hset2 hset3 hownz hBz Hcgz HS HD HMs HM Hsw Hlt
        go_upto_region 4 with fail
        refine wp_region_listed (S := fun l w' => (l.getD 17 true = false → w'.cell? ⟨gg, k * 6, none⟩ = some (.int .i64 kx)) ∧ (l.getD 17 true = false → w'.cell? ⟨gg, k * 6 + 1, none⟩ = some (.int .i64 ky)) ∧ (l.getD 17 true = false → w'.cell? ⟨gg, k * 6 + 2, none⟩ = some (.int .i64 kd)) ∧ (l.getD 17 true = false → w'.cell? ⟨gg, k * 6 + 3, none⟩ = some (.int .i64 kb)) ∧ (l.getD 17 true = false → w'.cell? ⟨gg, k * 6 + 4, none⟩ = some (.int .i64 kl)) ∧ (l.getD 17 true = false → w'.cell? ⟨gg, k * 6 + 5, none⟩ = some (.int .i64 kr)) ∧ (l.getD 19 true = false → w'.cell? ⟨gg, p * 6, none⟩ = some (.int .i64 px)) ∧ (l.getD 19 true = false → w'.cell? ⟨gg, p * 6 + 1, none⟩ = some (.int .i64 py)) ∧ (l.getD 19 true = false → w'.cell? ⟨gg, p * 6 + 2, none⟩ = some (.int .i64 pd)) ∧ (l.getD 19 true = false → w'.cell? ⟨gg, p * 6 + 3, none⟩ = some (.int .i64 pb)) ∧ (l.getD 19 true = false → w'.cell? ⟨gg, p * 6 + 4, none⟩ = some (.int .i64 pl)) ∧ (l.getD 19 true = false → w'.cell? ⟨gg, p * 6 + 5, none⟩ = some (.int .i64 pr))) (by kernel_rfl) ?hSS (fun hHeld => ?_)
        case hSS => exact ⟨fun _ => kc0, fun _ => kc1, fun _ => kc2, fun _ => kc3, fun _ => kc4, fun _ => kc5, fun _ => pc0, fun _ => pc1, fun _ => pc2, fun _ => pc3, fun _ => pc4, fun _ => pc5⟩
        refine wpAnyL_take (i := 0) (v := ?vSn0) rfl (by kernel_rfl) (by kernel_rfl) (by kernel_rfl) (by kernel_rfl) (fun _ _ _ h => h) ?hsSn0 (Or.inl ⟨by rfl, ?hySn0⟩) (by assumption) (fun hHeld => ?_)
        case hsSn0 => (intro l w; (try dsimp only); simp only [Go.getD_set_ne true (show (0 : Nat) ≠ 17 by decide), Go.getD_set_ne true (show (0 : Nat) ≠ 19 by decide)])
        case hySn0 => (intro w hSw; obtain ⟨l, hl, hc, hSw⟩ := hSw; (try dsimp only at hSw); obtain ⟨cS0, cS1, cS2, cS3, cS4, cS5, cS6, cS7, cS8, cS9, cS10, cS11⟩ := hSw; clear hc hl; go_simp; try with_reducible rfl)
        try simp only [Act.put, List.getElem_toArray, List.getElem_cons_zero, List.getElem_cons_succ, List.setIfInBounds_toArray, List.set_cons_zero, List.set_cons_succ]
        refine wpAnyL_take (i := 1) (v := ?vSn1) rfl (by kernel_rfl) (by kernel_rfl) (by kernel_rfl) (by kernel_rfl) (fun _ _ _ h => h) ?hsSn1 (Or.inl ⟨by rfl, ?hySn1⟩) (by assumption) (fun hHeld => ?_)
        case hsSn1 => (intro l w; (try dsimp only); simp only [Go.getD_set_ne true (show (1 : Nat) ≠ 17 by decide), Go.getD_set_ne true (show (1 : Nat) ≠ 19 by decide)])
        case hySn1 => (intro w hSw; obtain ⟨l, hl, hc, hSw⟩ := hSw; (try dsimp only at hSw); obtain ⟨cS0, cS1, cS2, cS3, cS4, cS5, cS6, cS7, cS8, cS9, cS10, cS11⟩ := hSw; clear hc hl; go_simp; try with_reducible rfl)
        try simp only [Act.put, List.getElem_toArray, List.getElem_cons_zero, List.getElem_cons_succ, List.setIfInBounds_toArray, List.set_cons_zero, List.set_cons_succ]
        refine wpAnyL_take (i := 2) (v := ?vSn2) rfl (by kernel_rfl) (by kernel_rfl) (by kernel_rfl) (by kernel_rfl) (fun _ _ _ h => h) ?hsSn2 (Or.inl ⟨by rfl, ?hySn2⟩) (by assumption) (fun hHeld => ?_)
        case hsSn2 => (intro l w; (try dsimp only); simp only [Go.getD_set_ne true (show (2 : Nat) ≠ 17 by decide), Go.getD_set_ne true (show (2 : Nat) ≠ 19 by decide)])
        case hySn2 => (intro w hSw; obtain ⟨l, hl, hc, hSw⟩ := hSw; (try dsimp only at hSw); obtain ⟨cS0, cS1, cS2, cS3, cS4, cS5, cS6, cS7, cS8, cS9, cS10, cS11⟩ := hSw; clear hc hl; go_simp; try with_reducible rfl)
        try simp only [Act.put, List.getElem_toArray, List.getElem_cons_zero, List.getElem_cons_succ, List.setIfInBounds_toArray, List.set_cons_zero, List.set_cons_succ]
        refine wpAnyL_take (i := 3) (v := ?vSn3) rfl (by kernel_rfl) (by kernel_rfl) (by kernel_rfl) (by kernel_rfl) (fun _ _ _ h => h) ?hsSn3 (Or.inl ⟨by rfl, ?hySn3⟩) (by assumption) (fun hHeld => ?_)
        case hsSn3 => (intro l w; (try dsimp only); simp only [Go.getD_set_ne true (show (3 : Nat) ≠ 17 by decide), Go.getD_set_ne true (show (3 : Nat) ≠ 19 by decide)])
        case hySn3 => (intro w hSw; obtain ⟨l, hl, hc, hSw⟩ := hSw; (try dsimp only at hSw); obtain ⟨cS0, cS1, cS2, cS3, cS4, cS5, cS6, cS7, cS8, cS9, cS10, cS11⟩ := hSw; clear hc hl; go_simp; try with_reducible rfl)
        try simp only [Act.put, List.getElem_toArray, List.getElem_cons_zero, List.getElem_cons_succ, List.setIfInBounds_toArray, List.set_cons_zero, List.set_cons_succ]
        refine wpAnyL_take (i := 4) (v := ?vSn4) rfl (by kernel_rfl) (by kernel_rfl) (by kernel_rfl) (by kernel_rfl) (fun _ _ _ h => h) ?hsSn4 (Or.inl ⟨by rfl, ?hySn4⟩) (by assumption) (fun hHeld => ?_)
        case hsSn4 => (intro l w; (try dsimp only); simp only [Go.getD_set_ne true (show (4 : Nat) ≠ 17 by decide), Go.getD_set_ne true (show (4 : Nat) ≠ 19 by decide)])
        case hySn4 => (intro w hSw; obtain ⟨l, hl, hc, hSw⟩ := hSw; (try dsimp only at hSw); obtain ⟨cS0, cS1, cS2, cS3, cS4, cS5, cS6, cS7, cS8, cS9, cS10, cS11⟩ := hSw; clear hc hl; go_simp; try with_reducible rfl)
        try simp only [Act.put, List.getElem_toArray, List.getElem_cons_zero, List.getElem_cons_succ, List.setIfInBounds_toArray, List.set_cons_zero, List.set_cons_succ]
        refine wpAnyL_take (i := 5) (v := ?vSn5) rfl (by kernel_rfl) (by kernel_rfl) (by kernel_rfl) (by kernel_rfl) (fun _ _ _ h => h) ?hsSn5 (Or.inl ⟨by rfl, ?hySn5⟩) (by assumption) (fun hHeld => ?_)
        case hsSn5 => (intro l w; (try dsimp only); simp only [Go.getD_set_ne true (show (5 : Nat) ≠ 17 by decide), Go.getD_set_ne true (show (5 : Nat) ≠ 19 by decide)])
        case hySn5 => (intro w hSw; obtain ⟨l, hl, hc, hSw⟩ := hSw; (try dsimp only at hSw); obtain ⟨cS0, cS1, cS2, cS3, cS4, cS5, cS6, cS7, cS8, cS9, cS10, cS11⟩ := hSw; clear hc hl; go_simp; try with_reducible rfl)
        try simp only [Act.put, List.getElem_toArray, List.getElem_cons_zero, List.getElem_cons_succ, List.setIfInBounds_toArray, List.set_cons_zero, List.set_cons_succ]
        refine wpAnyL_take (i := 6) (v := ?vSn6) rfl (by kernel_rfl) (by kernel_rfl) (by kernel_rfl) (by kernel_rfl) (fun _ _ _ h => h) ?hsSn6 (Or.inl ⟨by rfl, ?hySn6⟩) (by assumption) (fun hHeld => ?_)
        case hsSn6 => (intro l w; (try dsimp only); simp only [Go.getD_set_ne true (show (6 : Nat) ≠ 17 by decide), Go.getD_set_ne true (show (6 : Nat) ≠ 19 by decide)])
        case hySn6 => (intro w hSw; obtain ⟨l, hl, hc, hSw⟩ := hSw; (try dsimp only at hSw); obtain ⟨cS0, cS1, cS2, cS3, cS4, cS5, cS6, cS7, cS8, cS9, cS10, cS11⟩ := hSw; clear hc hl; go_simp; try with_reducible rfl)
        try simp only [Act.put, List.getElem_toArray, List.getElem_cons_zero, List.getElem_cons_succ, List.setIfInBounds_toArray, List.set_cons_zero, List.set_cons_succ]
        refine wpAnyL_take (i := 7) (v := ?vSn7) rfl (by kernel_rfl) (by kernel_rfl) (by kernel_rfl) (by kernel_rfl) (fun _ _ _ h => h) ?hsSn7 (Or.inl ⟨by rfl, ?hySn7⟩) (by assumption) (fun hHeld => ?_)
        case hsSn7 => (intro l w; (try dsimp only); simp only [Go.getD_set_ne true (show (7 : Nat) ≠ 17 by decide), Go.getD_set_ne true (show (7 : Nat) ≠ 19 by decide)])
        case hySn7 => (intro w hSw; obtain ⟨l, hl, hc, hSw⟩ := hSw; (try dsimp only at hSw); obtain ⟨cS0, cS1, cS2, cS3, cS4, cS5, cS6, cS7, cS8, cS9, cS10, cS11⟩ := hSw; clear hc hl; go_simp; try with_reducible rfl)
        try simp only [Act.put, List.getElem_toArray, List.getElem_cons_zero, List.getElem_cons_succ, List.setIfInBounds_toArray, List.set_cons_zero, List.set_cons_succ]
        refine wpAnyL_take (i := 8) (v := ?vSn8) rfl (by kernel_rfl) (by kernel_rfl) (by kernel_rfl) (by kernel_rfl) (fun _ _ _ h => h) ?hsSn8 (Or.inl ⟨by rfl, ?hySn8⟩) (by assumption) (fun hHeld => ?_)
        case hsSn8 => (intro l w; (try dsimp only); simp only [Go.getD_set_ne true (show (8 : Nat) ≠ 17 by decide), Go.getD_set_ne true (show (8 : Nat) ≠ 19 by decide)])
        case hySn8 => (intro w hSw; obtain ⟨l, hl, hc, hSw⟩ := hSw; (try dsimp only at hSw); obtain ⟨cS0, cS1, cS2, cS3, cS4, cS5, cS6, cS7, cS8, cS9, cS10, cS11⟩ := hSw; clear hc hl; go_simp; try with_reducible rfl)
        try simp only [Act.put, List.getElem_toArray, List.getElem_cons_zero, List.getElem_cons_succ, List.setIfInBounds_toArray, List.set_cons_zero, List.set_cons_succ]
        refine wpAnyL_take (i := 9) (v := ?vSn9) rfl (by kernel_rfl) (by kernel_rfl) (by kernel_rfl) (by kernel_rfl) (fun _ _ _ h => h) ?hsSn9 (Or.inl ⟨by rfl, ?hySn9⟩) (by assumption) (fun hHeld => ?_)
        case hsSn9 => (intro l w; (try dsimp only); simp only [Go.getD_set_ne true (show (9 : Nat) ≠ 17 by decide), Go.getD_set_ne true (show (9 : Nat) ≠ 19 by decide)])
        case hySn9 => (intro w hSw; obtain ⟨l, hl, hc, hSw⟩ := hSw; (try dsimp only at hSw); obtain ⟨cS0, cS1, cS2, cS3, cS4, cS5, cS6, cS7, cS8, cS9, cS10, cS11⟩ := hSw; clear hc hl; go_simp; try with_reducible rfl)
        try simp only [Act.put, List.getElem_toArray, List.getElem_cons_zero, List.getElem_cons_succ, List.setIfInBounds_toArray, List.set_cons_zero, List.set_cons_succ]
        refine wpAnyL_take (i := 10) (v := ?vSn10) rfl (by kernel_rfl) (by kernel_rfl) (by kernel_rfl) (by kernel_rfl) (fun _ _ _ h => h) ?hsSn10 (Or.inl ⟨by rfl, ?hySn10⟩) (by assumption) (fun hHeld => ?_)
        case hsSn10 => (intro l w; (try dsimp only); simp only [Go.getD_set_ne true (show (10 : Nat) ≠ 17 by decide), Go.getD_set_ne true (show (10 : Nat) ≠ 19 by decide)])
        case hySn10 => (intro w hSw; obtain ⟨l, hl, hc, hSw⟩ := hSw; (try dsimp only at hSw); obtain ⟨cS0, cS1, cS2, cS3, cS4, cS5, cS6, cS7, cS8, cS9, cS10, cS11⟩ := hSw; clear hc hl; go_simp; try with_reducible rfl)
        try simp only [Act.put, List.getElem_toArray, List.getElem_cons_zero, List.getElem_cons_succ, List.setIfInBounds_toArray, List.set_cons_zero, List.set_cons_succ]
        refine wpAnyL_take (i := 11) (v := ?vSn11) rfl (by kernel_rfl) (by kernel_rfl) (by kernel_rfl) (by kernel_rfl) (fun _ _ _ h => h) ?hsSn11 (Or.inl ⟨by rfl, ?hySn11⟩) (by assumption) (fun hHeld => ?_)
        case hsSn11 => (intro l w; (try dsimp only); simp only [Go.getD_set_ne true (show (11 : Nat) ≠ 17 by decide), Go.getD_set_ne true (show (11 : Nat) ≠ 19 by decide)])
        case hySn11 => (intro w hSw; obtain ⟨l, hl, hc, hSw⟩ := hSw; (try dsimp only at hSw); obtain ⟨cS0, cS1, cS2, cS3, cS4, cS5, cS6, cS7, cS8, cS9, cS10, cS11⟩ := hSw; replace cS6 := cS6 (hc.waits 24 (by decide +kernel) hl); replace cS7 := cS7 (hc.waits 24 (by decide +kernel) hl); replace cS8 := cS8 (hc.waits 24 (by decide +kernel) hl); replace cS9 := cS9 (hc.waits 24 (by decide +kernel) hl); replace cS10 := cS10 (hc.waits 24 (by decide +kernel) hl); replace cS11 := cS11 (hc.waits 24 (by decide +kernel) hl); clear hc hl; go_simp; try with_reducible rfl)
        try simp only [Act.put, List.getElem_toArray, List.getElem_cons_zero, List.getElem_cons_succ, List.setIfInBounds_toArray, List.set_cons_zero, List.set_cons_succ]
        refine wpAnyL_take (i := 12) (v := ?vSn12) rfl (by kernel_rfl) (by kernel_rfl) (by kernel_rfl) (by kernel_rfl) (fun _ _ _ h => h) ?hsSn12 (Or.inl ⟨by rfl, ?hySn12⟩) (by assumption) (fun hHeld => ?_)
        case hsSn12 => (intro l w; (try dsimp only); simp only [Go.getD_set_ne true (show (12 : Nat) ≠ 17 by decide), Go.getD_set_ne true (show (12 : Nat) ≠ 19 by decide)])
        case hySn12 => (intro w hSw; obtain ⟨l, hl, hc, hSw⟩ := hSw; (try dsimp only at hSw); obtain ⟨cS0, cS1, cS2, cS3, cS4, cS5, cS6, cS7, cS8, cS9, cS10, cS11⟩ := hSw; clear hc hl; go_simp; try with_reducible rfl)
        try simp only [Act.put, List.getElem_toArray, List.getElem_cons_zero, List.getElem_cons_succ, List.setIfInBounds_toArray, List.set_cons_zero, List.set_cons_succ]
        refine wpAnyL_take (i := 13) (v := ?vSn13) rfl (by kernel_rfl) (by kernel_rfl) (by kernel_rfl) (by kernel_rfl) (fun _ _ _ h => h) ?hsSn13 (Or.inl ⟨by rfl, ?hySn13⟩) (by assumption) (fun hHeld => ?_)
        case hsSn13 => (intro l w; (try dsimp only); simp only [Go.getD_set_ne true (show (13 : Nat) ≠ 17 by decide), Go.getD_set_ne true (show (13 : Nat) ≠ 19 by decide)])
        case hySn13 => (intro w hSw; obtain ⟨l, hl, hc, hSw⟩ := hSw; (try dsimp only at hSw); obtain ⟨cS0, cS1, cS2, cS3, cS4, cS5, cS6, cS7, cS8, cS9, cS10, cS11⟩ := hSw; clear hc hl; go_simp; try with_reducible rfl)
        try simp only [Act.put, List.getElem_toArray, List.getElem_cons_zero, List.getElem_cons_succ, List.setIfInBounds_toArray, List.set_cons_zero, List.set_cons_succ]
        refine wpAnyL_take (i := 14) (v := ?vSn14) rfl (by kernel_rfl) (by kernel_rfl) (by kernel_rfl) (by kernel_rfl) (fun _ _ _ h => h) ?hsSn14 (Or.inl ⟨by rfl, ?hySn14⟩) (by assumption) (fun hHeld => ?_)
        case hsSn14 => (intro l w; (try dsimp only); simp only [Go.getD_set_ne true (show (14 : Nat) ≠ 17 by decide), Go.getD_set_ne true (show (14 : Nat) ≠ 19 by decide)])
        case hySn14 => (intro w hSw; obtain ⟨l, hl, hc, hSw⟩ := hSw; (try dsimp only at hSw); obtain ⟨cS0, cS1, cS2, cS3, cS4, cS5, cS6, cS7, cS8, cS9, cS10, cS11⟩ := hSw; clear hc hl; go_simp; try with_reducible rfl)
        try simp only [Act.put, List.getElem_toArray, List.getElem_cons_zero, List.getElem_cons_succ, List.setIfInBounds_toArray, List.set_cons_zero, List.set_cons_succ]
        refine wpAnyL_take (i := 15) (v := ?vSn15) rfl (by kernel_rfl) (by kernel_rfl) (by kernel_rfl) (by kernel_rfl) (fun _ _ _ h => h) ?hsSn15 (Or.inl ⟨by rfl, ?hySn15⟩) (by assumption) (fun hHeld => ?_)
        case hsSn15 => (intro l w; (try dsimp only); simp only [Go.getD_set_ne true (show (15 : Nat) ≠ 17 by decide), Go.getD_set_ne true (show (15 : Nat) ≠ 19 by decide)])
        case hySn15 => (intro w hSw; obtain ⟨l, hl, hc, hSw⟩ := hSw; (try dsimp only at hSw); obtain ⟨cS0, cS1, cS2, cS3, cS4, cS5, cS6, cS7, cS8, cS9, cS10, cS11⟩ := hSw; replace cS0 := cS0 (hc.waits 24 (by decide +kernel) hl); replace cS1 := cS1 (hc.waits 24 (by decide +kernel) hl); replace cS2 := cS2 (hc.waits 24 (by decide +kernel) hl); replace cS3 := cS3 (hc.waits 24 (by decide +kernel) hl); replace cS4 := cS4 (hc.waits 24 (by decide +kernel) hl); replace cS5 := cS5 (hc.waits 24 (by decide +kernel) hl); clear hc hl; go_simp; try with_reducible rfl)
        try simp only [Act.put, List.getElem_toArray, List.getElem_cons_zero, List.getElem_cons_succ, List.setIfInBounds_toArray, List.set_cons_zero, List.set_cons_succ]
        refine wpAnyL_take (i := 16) (v := ?vSn16) rfl (by kernel_rfl) (by kernel_rfl) (by kernel_rfl) (by kernel_rfl) (fun _ _ _ h => h) ?hsSn16 (Or.inl ⟨by rfl, ?hySn16⟩) (by assumption) (fun hHeld => ?_)
        case hsSn16 => (intro l w; (try dsimp only); simp only [Go.getD_set_ne true (show (16 : Nat) ≠ 17 by decide), Go.getD_set_ne true (show (16 : Nat) ≠ 19 by decide)])
        case hySn16 => (intro w hSw; obtain ⟨l, hl, hc, hSw⟩ := hSw; (try dsimp only at hSw); obtain ⟨cS0, cS1, cS2, cS3, cS4, cS5, cS6, cS7, cS8, cS9, cS10, cS11⟩ := hSw; clear hc hl; go_simp; try with_reducible rfl)
        try simp only [Act.put, List.getElem_toArray, List.getElem_cons_zero, List.getElem_cons_succ, List.setIfInBounds_toArray, List.set_cons_zero, List.set_cons_succ]
        refine wpAnyL_ready (rs := [17]) (by kernel_rfl) (by simp) (AllReadyL.cons rfl (fun K hK => ?_) AllReadyL.nil)
        go_simp
        refine hK.out _ _ ?hkSn17 (fun hHeld => ?_)
        case hkSn17 => exact ⟨fun h => absurd h (by first | decide | kernel_rfl), fun h => absurd h (by first | decide | kernel_rfl), fun h => absurd h (by first | decide | kernel_rfl), fun h => absurd h (by first | decide | kernel_rfl), fun h => absurd h (by first | decide | kernel_rfl), fun h => absurd h (by first | decide | kernel_rfl), fun _ => far60 (hHeld.2.2.2.2.2.2.1 (by first | decide | kernel_rfl)) hkp, fun _ => far6d (m := 1) (hHeld.2.2.2.2.2.2.2.1 (by first | decide | kernel_rfl)) hkp (by decide), fun _ => far6d (m := 2) (hHeld.2.2.2.2.2.2.2.2.1 (by first | decide | kernel_rfl)) hkp (by decide), fun _ => far6d (m := 3) (hHeld.2.2.2.2.2.2.2.2.2.1 (by first | decide | kernel_rfl)) hkp (by decide), fun _ => far6d (m := 4) (hHeld.2.2.2.2.2.2.2.2.2.2.1 (by first | decide | kernel_rfl)) hkp (by decide), fun _ => far6d (m := 5) (hHeld.2.2.2.2.2.2.2.2.2.2.2 (by first | decide | kernel_rfl)) hkp (by decide)⟩
        clear hK K
        try simp only [Act.put, List.getElem_toArray, List.getElem_cons_zero, List.getElem_cons_succ, List.setIfInBounds_toArray, List.set_cons_zero, List.set_cons_succ]
        refine wpAnyL_take (i := 18) (v := ?vSn18) rfl (by kernel_rfl) (by kernel_rfl) (by kernel_rfl) (by kernel_rfl) (fun _ _ _ h => h) ?hsSn18 (Or.inl ⟨by rfl, ?hySn18⟩) (by assumption) (fun hHeld => ?_)
        case hsSn18 => (intro l w; (try dsimp only); simp only [Go.getD_set_ne true (show (18 : Nat) ≠ 17 by decide), Go.getD_set_ne true (show (18 : Nat) ≠ 19 by decide)])
        case hySn18 => (intro w hSw; obtain ⟨l, hl, hc, hSw⟩ := hSw; (try dsimp only at hSw); obtain ⟨cS0, cS1, cS2, cS3, cS4, cS5, cS6, cS7, cS8, cS9, cS10, cS11⟩ := hSw; clear hc hl; go_simp; try with_reducible rfl)
        try simp only [Act.put, List.getElem_toArray, List.getElem_cons_zero, List.getElem_cons_succ, List.setIfInBounds_toArray, List.set_cons_zero, List.set_cons_succ]
        refine wpAnyL_ready (rs := [19]) (by kernel_rfl) (by simp) (AllReadyL.cons rfl (fun K hK => ?_) AllReadyL.nil)
        go_simp
        refine hK.out _ _ ?hkSn19 (fun hHeld => ?_)
        case hkSn19 => exact ⟨fun h => absurd h (by first | decide | kernel_rfl), fun h => absurd h (by first | decide | kernel_rfl), fun h => absurd h (by first | decide | kernel_rfl), fun h => absurd h (by first | decide | kernel_rfl), fun h => absurd h (by first | decide | kernel_rfl), fun h => absurd h (by first | decide | kernel_rfl), fun h => absurd h (by first | decide | kernel_rfl), fun h => absurd h (by first | decide | kernel_rfl), fun h => absurd h (by first | decide | kernel_rfl), fun h => absurd h (by first | decide | kernel_rfl), fun h => absurd h (by first | decide | kernel_rfl), fun h => absurd h (by first | decide | kernel_rfl)⟩
        clear hK K
        try simp only [Act.put, List.getElem_toArray, List.getElem_cons_zero, List.getElem_cons_succ, List.setIfInBounds_toArray, List.set_cons_zero, List.set_cons_succ]
        refine wpAnyL_done (by kernel_rfl) ?_ _
        go_wp2_with fail
        go_roundw
        case rel => exact ⟨p, swp f2 k p, by go_num, HU2, HM2, Hset.out.1, Hset.out.2.1, hide Hset.out.2.2⟩
        case measure => (have := Hp.out; have := Hk1.out; simp [intOf]; omega)
end
end Go.Proofs.Ytegmokdhfmgdgaa.Rt
