/- The contract of chart.maker's method bar: one more bar is owned. -/
import Derived.Test.YtoggpbbndoipdaaBarMake
namespace Go.Proofs.Ytoggpbbndoipdaa.Chr
open Go.RowKit Go.Frm Scl

theorem bar_info : (Try.prog.info? 40).map (fun i => (i.zero, i.size, i.bytes)) = some (some (.agg #[.int .i64 0, .int .i64 0, .int .i64 0, .int .i64 0, .int .i64 0, .int .i64 0]), 6, 48) := by kernel_rfl

/-- rows of other types and blocks below stay as they are -/
structure Fr (M : Nat) (w w' : World) : Prop where
  near : Near M (M + 1) w w'
  own : ∀ (base : Nat) (e : TypeId) (size : Nat) (v : Value) (n : Nat) (xs : List Value), e ≠ 40 → e ≠ 56 → w.ownsRow base e size v n xs → w'.ownsRow base e size v n xs
section
variable {M : Nat} {a w w' : World}
theorem Fr.refl (M : Nat) (w : World) : Fr M w w := ⟨Near.refl _ _ _, fun _ _ _ _ _ _ _ _ h => h⟩
theorem Fr.trans (h : Fr M a w) (h' : Fr M w w') : Fr M a w' := ⟨h.near.trans h'.near, fun b e s v n xs h1 h2 h3 => h'.own b e s v n xs h1 h2 (h.own b e s v n xs h1 h2 h3)⟩
theorem Fr.drewN (h : Fr M a w) (n : Nat) : Fr M a (w.drewN n) := ⟨h.near.drewN n, h.own⟩
theorem Fr.below (h : Fr M a w) (hM : M < w.heap.size) (hb : Below w.heap.size w w') : Fr M a w' :=
  ⟨h.near.trans (Near.of_below hb (by omega)), fun b e s v n xs h1 h2 h3 => own_below (h.own b e s v n xs h1 h2 h3) hb⟩
theorem Fr.alloc (h : Fr M a w) (hM : M < w.heap.size) (o : Obj) : Fr M a (w.alloc o) := h.below hM ((Below.refl _ _).alloc (Nat.le_refl _) o)
theorem Fr.app (h : Fr M a w) (hM : M < w.heap.size) {size n : Nat} {v : Value} {xs : List Value} (ho : w.ownsRow (M + 1) 40 size v n xs) (hg : w.grownBy w' v.ownBlock) : Fr M a w' :=
  ⟨h.near.grown hg (by omega) (fun k hk => (ho.lt k hk).1), fun b e s v2 n xs h1 h2 h3 => (h.own b e s v2 n xs h1 h2 h3).kept hg (own_ne (h.own b e s v2 n xs h1 h2 h3) ho h1)⟩
theorem own_setM {g : Nat} {cs : Array Value} {tm : TypeId} (hb : Blk w g tm cs) {base : Nat} {e : TypeId} {size n : Nat} {v : Value} {xs : List Value} (he : e ≠ tm) (h : w.ownsRow base e size v n xs) (i : Nat) (u : Value) :
    (w.setCell ⟨g, i, none⟩ u).ownsRow base e size v n xs := by
  refine ⟨h.1, ?_⟩
  rcases h.2 with h2 | ⟨g1, cap, cur, h1, h2, h3, h4⟩
  · exact .inl h2
  · refine .inr ⟨g1, cap, cur, h1, h2, ?_, h4⟩
    have hne : g1 ≠ g := by
      rintro rfl
      unfold Blk at hb
      rw [hb] at h3
      injection h3 with h3
      injection h3 with _ h5
      exact he h5.symm
    rw [Below.heap_setCell w ⟨g, i, none⟩ u g1 hne]
    exact h3
theorem Fr.setM (h : Fr M a w) {cs : Array Value} (hb : Blk w M 56 cs) (i : Nat) (u : Value) : Fr M a (w.setCell ⟨M, i, none⟩ u) :=
  ⟨h.near.setCell (.inl rfl) u, fun b e s v n xs h1 h2 h3 => own_setM hb h2 (h.own b e s v n xs h1 h2 h3) i u⟩
end

/-- the maker and what it has made -/
structure Mk (w : World) (M : Nat) (kind : Int) (An As : Option Addr) (n cn m cs : Nat) (lo hi st high : Int) (t : Nat) (xs : List Value) (v : Value) : Prop where
  blk : Blk w M 56 (mkC kind An As n cn m cs lo hi st high v)
  own : w.ownsRow (M + 1) 40 6 v t xs

def BarPost (M : Nat) (kind : Int) (An As : Option Addr) (n cn m cs : Nat) (lo hi st high : Int) (t : Nat) (xs : List Value) (w : World) (e : Ending) (w' : World) : Prop :=
  ∃ v', e = .returned (.tuple #[]) ∧ Mk w' M kind An As n cn m cs lo hi st high t xs v' ∧ Fr M w w'

set_option maxRecDepth 100000 in
set_option maxHeartbeats 4000000 in
theorem bar_ok (M : Nat) (kind : Int) (An As : Option Addr) (n cn m cs : Nat) (lo hi st high series value u z x wd : Int) (t : Nat) (xs : List Value) (v : Value) (w : World) (hmk : Mk w M kind An As n cn m cs lo hi st high t xs v) (ht : t < 10000)
    (hsc : Sc lo hi st) (h0 : 0 ≤ high) (h1 : high ≤ 100000) (u0 : lo ≤ u) (u1 : u ≤ hi) (z0 : lo ≤ z) (z1 : z ≤ hi) :
    Calls Try.prog 20 #[.pointer (some ⟨M, 0, none⟩), .int .i64 series, .int .i64 value, .int .i64 u, .int .i64 z, .int .i64 x, .int .i64 wd] w
      (BarPost M kind An As n cn m cs lo hi st high (t + 1) (xs ++ [.int .i64 series, .int .i64 value, .int .i64 x, .int .i64 (min (high - plc lo hi high u) (high - plc lo hi high z)), .int .i64 wd, .int .i64 (max (high - plc lo hi high u) (high - plc lo hi high z) - min (high - plc lo hi high u) (high - plc lo hi high z))]) w) := by
  obtain ⟨hb, hown⟩ := hmk
  have q1 := plc_bd (high := high) hsc.lt h0 u0 u1
  have q2 := plc_bd (high := high) hsc.lt h0 z0 z1
  have hyu := fun wx hbx => y_ok M kind An As n cn m cs lo hi st high u v wx hbx hsc h0 h1 u0 u1
  have hyz := fun wx hbx => y_ok M kind An As n cn m cs lo hi st high z v wx hbx hsc h0 h1 z0 z1
  generalize plc lo hi high u = pu at *
  generalize plc lo hi high z = pz at *
  have Hyu := hide hyu
  have Hyz := hide hyz
  have hM := hb.lt
  clear hyu hyz hsc
  obtain ⟨A, c, rfl⟩ := own_form hown
  have hcase : ∃ Y H : Int, (pu < pz ∧ Y = high - pz ∧ H = high - pu - (high - pz)) ∨ (pz < pu ∧ Y = high - pu ∧ H = high - pz - (high - pu)) ∨ (pu = pz ∧ Y = high - pz ∧ H = 0) := by
    rcases Int.lt_trichotomy pu pz with hp | hp | hp
    · exact ⟨_, _, .inl ⟨hp, rfl, rfl⟩⟩
    · exact ⟨_, _, .inr (.inr ⟨hp, rfl, rfl⟩)⟩
    · exact ⟨_, _, .inr (.inl ⟨hp, rfl, rfl⟩)⟩
  obtain ⟨Y, HH, hcase⟩ := hcase
  have hY : min (high - pu) (high - pz) = Y := by omega
  have hH : max (high - pu) (high - pz) - Y = HH := by omega
  rw [hY, hH]
  clear hY hH
  rcases hcase with ⟨hp, rfl, rfl⟩ | ⟨hp, rfl, rfl⟩ | ⟨rfl, rfl, rfl⟩
  all_goals
    go_enter Try.func20, Try.ntmps20
    go_wp2_with fail
    refine (Hyu.out _ hb).mono ?_
    rintro e w1 ⟨rfl, hbel1⟩
    have hb1 := hb.below hbel1 hM
    have hfr1 := (Fr.refl M w).below hM hbel1
    have ho1 := own_below hown hbel1
    go_wp2_with fail
    refine (Hyz.out _ hb1).mono ?_
    rintro e w2 ⟨rfl, hbel2⟩
    have hb2 := hb1.below hbel2 hb1.lt
    have hfr2 := hfr1.below hb1.lt hbel2
    have ho2 := own_below ho1 hbel2
    have c7 : w2.cell? ⟨M, 7, none⟩ = some (.slice A t c) := hb2.cell 7
    have z7 := hb2.frozen 7
    have hM2 := hb2.lt
    clear hbel1 hbel2 hb hown hb1 hfr1 ho1
    go_wp2_with (at_builtin; refine wpL_append rfl rfl Try.underlying36 bar_info rfl (by decide) rfl rfl (ho2.alloc _) (news_at _ _ _ _ (by simp)) rfl (by simp [Value.oneCell']) (by omega) (by omega) (by simp; omega) ?_; intro v1 w3 hown3 hgrow3; have hb3 := (hb2.alloc _).app (ho2.alloc _) (Nat.lt_succ_self M) hgrow3; have hfr3 := (hfr2.alloc hM2 _).app (by simp; omega) (ho2.alloc _) hgrow3; have g7 : w3.cell? ⟨M, 7, none⟩ = some (.slice A t c) := hb3.cell 7; have zz7 := hb3.frozen 7; obtain ⟨A1, c1, rfl⟩ := own_form hown3)

    refine bodyPost_end (results_none rfl _ _ _) rfl ?_
    exact ⟨_, rfl, ⟨hb3.set_ 7 _, own_setCell_low hown3 (Nat.lt_succ_self M) _⟩, hfr3.setM hb3 7 _⟩
end Go.Proofs.Ytoggpbbndoipdaa.Chr
