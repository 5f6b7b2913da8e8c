/- Aligning twice: the plain facts; slices.Contains on ints that are read; Align of nothing; slices.Equal on drawings that are alike. -/
import Derived.Test.YtnmikhmbnpiadaaDoorShapeAlign
import Derived.Test.YtnmikhmbnpiadaaDoorShapeBasics
namespace Go.Proofs.YtnmikhmbnpiadaaDoor.Shp
open Go.RowKit Go.Frm

theorem cont_ok (A : Option Addr) (c : Nat) (zs : List Int) (x : Int) (w : World) (hr : RdI w A zs) (hb : zs.length ≤ 100000) :
    Calls Tryd.prog 17 #[.slice A zs.length c, .int .i64 x] w fun e w' => e = .returned (.bool (zs.contains x)) ∧ w' = w := by
  rcases hr with rfl | ⟨b, off, rfl, hc⟩
  · exact (Tryd.slices_Contains_int_empty A c x w).mono (fun e w' ⟨h1, h2⟩ => ⟨by rw [h1]; rfl, h2⟩)
  · exact (Tryd.slices_Contains_int b off zs.length c zs x w (Nat.le_refl _) (by omega) hc).mono (fun e w' ⟨h1, h2⟩ => ⟨by rw [h1, List.take_length], h2⟩)

set_option maxRecDepth 100000 in
set_option maxHeartbeats 1000000 in
theorem align_none (A Ai : Option Addr) (n c ci : Nat) (G : Nat → Nat → Int) (T : Nat → Nat → ByteArray) (side : Int) (w : World) (ho : ShOk G n) (hr : RdF w A n 12 (shV G T)) (hnc : n ≤ c) (hp0 : ∀ k, k < n → G k 1 = 0) :
    Calls Tryd.prog 18 #[.slice A n c, .slice Ai 0 ci, .int .i64 side] w (fun e w' => e = .returned (.tuple #[.slice none 0 0, .int .i64 7]) ∧ Below w.heap.size w w') := by
  have Hal := hide (alike_ok A Ai n c ci G T [] w ho hr hnc (.inl rfl) (Nat.zero_le _) (by simp) List.nodup_nil)
  have Hp0 := hide hp0
  clear ho hr hp0
  go_enter Tryd.func18, Tryd.ntmps18
  go_wp2_with fail
  refine Hal.out.mono ?_
  rintro e w1 ⟨hb1, ⟨rfl, hbad⟩ | ⟨rfl, i, j, hi, hj, hij⟩ | ⟨K, A8, c8, rfl, hz0, hK, hown8⟩⟩
  · go_wp2_with fail
    go_ret2
    exact ⟨rfl, hb1⟩
  · exfalso
    exact hij (by rw [Hp0.out i hi, Hp0.out j hj])
  · exact absurd rfl hz0

set_option maxRecDepth 100000 in
set_option maxHeartbeats 4000000 in
theorem alike_shapes (A B : Option Addr) (n ca cb : Nat) (G : Nat → Nat → Int) (T : Nat → Nat → ByteArray) (w : World) (hA : RdF w A n 12 (shV G T)) (hB : RdF w B n 12 (shV G T)) (hn : n ≤ 100000) :
    Calls Tryd.prog 19 #[.slice A n ca, .slice B n cb] w fun e w' => e = .returned (.bool true) ∧ ∃ d, w' = w.drewN d := by
  go_enter Tryd.func19, Tryd.ntmps19
  go_wp2_with fail
  go_loopw [13] (fun a wr => ∃ (k d : Nat), k ≤ n ∧ a = .int .i64 k ∧ wr = w.drewN d) (fun a _ => n - (intOf a).toNat)
  case atStart => exact ⟨0, 0, by omega, rfl, rfl⟩
  case round =>
    obtain ⟨k, d, hk, rfl, rfl⟩ := hrel
    by_cases hlt : k < n
    · obtain ⟨b1, o1, rfl, p0, p1, p2, p3, p4, p5, p6, p7, p8, p9, p10, p11⟩ := cells12 hA hlt
      obtain ⟨b2, o2, rfl, q0, q1, q2, q3, q4, q5, q6, q7, q8, q9, q10, q11⟩ := cells12 hB hlt
      have i0 : (0 : Int) ≤ (k : Int) := by omega
      have i1 : (k : Int) < (n : Int) := by omega
      generalize G k 0 = g0 at *
      generalize G k 1 = g1 at *
      generalize G k 2 = g2 at *
      generalize G k 3 = g3 at *
      generalize G k 4 = g4 at *
      generalize G k 5 = g5 at *
      generalize G k 6 = g6 at *
      generalize G k 7 = g7 at *
      generalize G k 8 = g8 at *
      generalize G k 9 = g9 at *
      generalize T k 10 = g10 at *
      generalize T k 11 = g11 at *
      go_wp2_with fail
      go_quiet (fail)
      go_wp2_with fail
      go_roundw
      case rel => exact ⟨k + 1, _, by omega, by go_num, rfl⟩
      case measure => simp [intOf]; omega
    · have hkn : n = k := by omega
      subst hkn
      go_wp2_with fail
      go_ret
      exact ⟨rfl, d, rfl⟩

theorem alS_plain {G : Nat → Nat → Int} {n : Nat} {side lo hi : Int} {sel : Nat → Bool} (h0 : 0 ≤ side) (h5 : side ≤ 5) (hp : Plain G n 2000)
    (hb : ∀ k, k < n → sel k = true → lo ≤ exLo G k (side / 3) ∧ exHi G k (side / 3) ≤ hi) (hlo : ∃ k, k < n ∧ sel k = true ∧ lo = exLo G k (side / 3)) (hhi : ∃ k, k < n ∧ sel k = true ∧ hi = exHi G k (side / 3)) : Plain (alS G side lo hi sel) n 10000 := by
  have hne : ∀ k j, j ≠ 3 → j ≠ 4 → alS G side lo hi sel k j = G k j := fun k j h3 h4 => alS_of (by omega)
  intro k hk
  rw [hne k 7 (by decide) (by decide), hne k 5 (by decide) (by decide), hne k 6 (by decide) (by decide)]
  obtain ⟨p7, p3, p4, p5, p6⟩ := hp k hk
  have ax : side / 3 = 0 ∨ side / 3 = 1 := by omega
  obtain ⟨kl, hkl, _, el⟩ := hlo
  obtain ⟨kh, hkh, _, eh⟩ := hhi
  obtain ⟨l7, l3, l4, l5, l6⟩ := hp kl hkl
  obtain ⟨h7, h3, h4, h5', h6⟩ := hp kh hkh
  have bl : -2000 ≤ lo ∧ lo ≤ 2000 := by
    obtain ⟨e1, e2, e3, e4⟩ := ex_zero l7 l5.1 l6.1
    rw [el]
    rcases ax with h | h
    · rw [h, e1]; exact l3
    · rw [h, e3]; exact l4
  have bh : -2000 ≤ hi ∧ hi ≤ 3500 := by
    obtain ⟨e1, e2, e3, e4⟩ := ex_zero h7 h5'.1 h6.1
    rw [eh]
    rcases ax with h | h
    · rw [h, e2]; omega
    · rw [h, e4]; omega
  have key : ∀ (x w : Int), -2000 ≤ x → x ≤ 2000 → 0 ≤ w → w ≤ 1500 → exLo G k (side / 3) = x → exHi G k (side / 3) = x + w → -10000 ≤ x + byA G side lo hi k ∧ x + byA G side lo hi k ≤ 10000 := by
    intro x w x0 x1 w0 w1 e1 e2
    unfold byA rdu
    rw [e1, e2]
    repeat' split
    all_goals omega
  obtain ⟨e1, e2, e3, e4⟩ := ex_zero p7 p5.1 p6.1
  refine ⟨p7, ?_, ?_, p5, p6⟩
  · show -10000 ≤ (if ((3 : Nat) : Int) = 3 + side / 3 ∧ sel k = true then G k 3 + byA G side lo hi k else G k 3) ∧ (if ((3 : Nat) : Int) = 3 + side / 3 ∧ sel k = true then G k 3 + byA G side lo hi k else G k 3) ≤ 10000
    by_cases hc : ((3 : Nat) : Int) = 3 + side / 3 ∧ sel k = true
    · rw [if_pos hc]
      have h : side / 3 = 0 := by omega
      exact key (G k 3) (G k 5) p3.1 p3.2 p5.1 p5.2 (by rw [h, e1]) (by rw [h, e2])
    · rw [if_neg hc]; omega
  · show -10000 ≤ (if ((4 : Nat) : Int) = 3 + side / 3 ∧ sel k = true then G k 4 + byA G side lo hi k else G k 4) ∧ (if ((4 : Nat) : Int) = 3 + side / 3 ∧ sel k = true then G k 4 + byA G side lo hi k else G k 4) ≤ 10000
    by_cases hc : ((4 : Nat) : Int) = 3 + side / 3 ∧ sel k = true
    · rw [if_pos hc]
      have h : side / 3 = 1 := by omega
      exact key (G k 4) (G k 6) p4.1 p4.2 p6.1 p6.2 (by rw [h, e3]) (by rw [h, e4])
    · rw [if_neg hc]; omega

/-- where the sides stand behind the alignment -/
theorem al_side {G : Nat → Nat → Int} {n : Nat} {side lo hi : Int} {sel : Nat → Bool} (h0 : 0 ≤ side) (h5 : side ≤ 5) (hp : Plain G n 10000) {k : Nat} (hk : k < n) (hs : sel k = true) :
    (side = 0 → alS G side lo hi sel k 3 = lo) ∧ (side = 2 → alS G side lo hi sel k 3 + alS G side lo hi sel k 5 = hi) ∧ (side = 3 → alS G side lo hi sel k 4 = lo) ∧ (side = 5 → alS G side lo hi sel k 4 + alS G side lo hi sel k 6 = hi) := by
  obtain ⟨p7, p3, p4, p5, p6⟩ := hp k hk
  obtain ⟨e1, e2, e3, e4⟩ := ex_zero p7 p5.1 p6.1
  refine ⟨?_, ?_, ?_, ?_⟩
  · rintro rfl
    unfold alS
    rw [if_pos ⟨by decide, hs⟩]
    unfold byA
    rw [if_pos (by decide), show (0 : Int) / 3 = 0 by decide, e1]
    omega
  · rintro rfl
    unfold alS
    rw [if_pos ⟨by decide, hs⟩, if_neg (fun h => absurd h.1 (by decide))]
    unfold byA
    rw [if_neg (by decide), if_neg (by decide), show (2 : Int) / 3 = 0 by decide, e2]
    omega
  · rintro rfl
    unfold alS
    rw [if_pos ⟨by decide, hs⟩]
    unfold byA
    rw [if_pos (by decide), show (3 : Int) / 3 = 1 by decide, e3]
    omega
  · rintro rfl
    unfold alS
    rw [if_pos ⟨by decide, hs⟩, if_neg (fun h => absurd h.1 (by decide))]
    unfold byA
    rw [if_neg (by decide), if_neg (by decide), show (5 : Int) / 3 = 1 by decide, e4]
    omega
theorem byA_lo {G : Nat → Nat → Int} {side lo hi : Int} {k : Nat} (h : side % 3 = 0) : byA G side lo hi k = lo - exLo G k (side / 3) := if_pos h
theorem byA_hi {G : Nat → Nat → Int} {side lo hi : Int} {k : Nat} (h : side % 3 = 2) : byA G side lo hi k = hi - exHi G k (side / 3) := (if_neg (by omega)).trans (if_neg (by omega))
/-- the second alignment moves nothing -/
theorem al_twice {G : Nat → Nat → Int} {n : Nat} {side lo hi lo' hi' : Int} {sel sel' : Nat → Bool} (h0 : 0 ≤ side) (h5 : side ≤ 5) (h1 : side ≠ 1) (h4 : side ≠ 4) (hp : Plain G n 10000) (hp' : Plain (alS G side lo hi sel) n 10000)
    (hss : ∀ k, k < n → sel' k = true → sel k = true) (hlo : ∃ k, k < n ∧ sel' k = true ∧ lo' = exLo (alS G side lo hi sel) k (side / 3)) (hhi : ∃ k, k < n ∧ sel' k = true ∧ hi' = exHi (alS G side lo hi sel) k (side / 3)) :
    ∀ k j, k < n → alS (alS G side lo hi sel) side lo' hi' sel' k j = alS G side lo hi sel k j := by
  intro k j hk
  by_cases hc : (j : Int) = 3 + side / 3 ∧ sel' k = true
  · have hz : byA (alS G side lo hi sel) side lo' hi' k = 0 := by
      have hsd : side = 0 ∨ side = 2 ∨ side = 3 ∨ side = 5 := by omega
      obtain ⟨kl, hkl, sl, el⟩ := hlo
      obtain ⟨kh, hkh, sh, eh⟩ := hhi
      have a := al_side (G := G) (lo := lo) (hi := hi) (sel := sel) h0 h5 hp hk (hss k hk hc.2)
      have al := al_side (G := G) (lo := lo) (hi := hi) (sel := sel) h0 h5 hp hkl (hss kl hkl sl)
      have ah := al_side (G := G) (lo := lo) (hi := hi) (sel := sel) h0 h5 hp hkh (hss kh hkh sh)
      obtain ⟨p7, _, _, p5, p6⟩ := hp' k hk
      obtain ⟨l7, _, _, l5, l6⟩ := hp' kl hkl
      obtain ⟨q7, _, _, q5, q6⟩ := hp' kh hkh
      obtain ⟨e1, e2, e3, e4⟩ := ex_zero p7 p5.1 p6.1
      obtain ⟨f1, f2, f3, f4⟩ := ex_zero l7 l5.1 l6.1
      obtain ⟨g1, g2, g3, g4⟩ := ex_zero q7 q5.1 q6.1
      rcases hsd with h | h | h | h
      · have a1 := a.1 h
        have a2 := al.1 h
        clear a al ah
        have ax : side / 3 = 0 := by omega
        rw [byA_lo (by omega), el, ax, e1, f1]
        omega
      · have a1 := a.2.1 h
        have a2 := ah.2.1 h
        clear a al ah
        have ax : side / 3 = 0 := by omega
        rw [byA_hi (by omega), eh, ax, e2, g2]
        omega
      · have a1 := a.2.2.1 h
        have a2 := al.2.2.1 h
        clear a al ah
        have ax : side / 3 = 1 := by omega
        rw [byA_lo (by omega), el, ax, e3, f3]
        omega
      · have a1 := a.2.2.2 h
        have a2 := ah.2.2.2 h
        clear a al ah
        have ax : side / 3 = 1 := by omega
        rw [byA_hi (by omega), eh, ax, e4, g4]
        omega
    show (if (j : Int) = 3 + side / 3 ∧ sel' k = true then _ else _) = _
    rw [if_pos hc, hz, Int.add_zero]
  · show (if (j : Int) = 3 + side / 3 ∧ sel' k = true then _ else _) = _
    rw [if_neg hc]
/-- the drawing of the law: no groups -/
def flG (G : Nat → Nat → Int) (i k j : Nat) : Int := if k < i ∧ j = 1 then 0 else G k j
theorem flG_ok {G : Nat → Nat → Int} {n : Nat} (ho : ShOk G n) : ShOk (flG G n) n := by
  have hne : ∀ k j, j ≠ 1 → flG G n k j = G k j := fun k j h => if_neg (fun hh => h hh.2)
  exact {
    few := ho.few
    item := fun i hi => by rw [hne i 0 (by decide)]; exact ho.item i hi
    one := fun j i hj hi => by rw [hne j 0 (by decide), hne i 0 (by decide)]; exact ho.one j i hj hi
    par := fun i hi => by
      have e : flG G n i 1 = 0 := if_pos ⟨hi, rfl⟩
      rw [e]; omega
    kind := fun i hi => by rw [hne i 2 (by decide)]; exact ho.kind i hi
    xy := fun i hi => by rw [hne i 3 (by decide), hne i 4 (by decide)]; exact ho.xy i hi
    wh := fun i hi => by rw [hne i 5 (by decide), hne i 6 (by decide)]; exact ho.wh i hi
    turn := fun i hi => by rw [hne i 7 (by decide)]; exact ho.turn i hi
    ft := fun i hi => by rw [hne i 8 (by decide), hne i 9 (by decide)]; exact ho.ft i hi
    link := fun i hi h => by rw [hne i 2 (by decide)] at h; rw [hne i 8 (by decide), hne i 9 (by decide)]; exact ho.link i hi h
    grp := fun i hi => .inl (if_pos ⟨hi, rfl⟩) }
theorem flG_plain (G : Nat → Nat → Int) (n : Nat) : Plain (flG (shG G false) n) n 2000 := by
  have hne : ∀ k j, j ≠ 1 → flG (shG G false) n k j = shG G false k j := fun k j h => if_neg (fun hh => h hh.2)
  intro k _
  rw [hne k 7 (by decide), hne k 3 (by decide), hne k 4 (by decide), hne k 5 (by decide), hne k 6 (by decide)]
  exact ⟨rfl, Wi.wi_bd _ (by omega), Wi.wi_bd _ (by omega), Wi.wi_bd _ (by omega), Wi.wi_bd _ (by omega)⟩
theorem flG_step (G : Nat → Nat → Int) (T : Nat → Nat → ByteArray) (i : Nat) : upd2 (shV (flG G i) T) i 1 (.int .i64 0) = shV (flG G (i + 1)) T := by
  funext a b
  unfold upd2 shV flG
  by_cases hab : a = i ∧ b = 1
  · obtain ⟨rfl, rfl⟩ := hab
    simp
  · rw [if_neg hab]
    by_cases hb : b < 10
    · rw [if_pos hb, if_pos hb]
      by_cases hc : a < i ∧ b = 1
      · rw [if_pos hc, if_pos ⟨by omega, hc.2⟩]
      · rw [if_neg hc, if_neg (fun hh => hc ⟨by
          have : a ≠ i := fun e => hab ⟨e, hh.2⟩
          omega, hh.2⟩)]
    · rw [if_neg hb, if_neg hb]
end Go.Proofs.YtnmikhmbnpiadaaDoor.Shp
