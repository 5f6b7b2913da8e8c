/- The contract of (*seq).implicit. Printed by bdimpgen.py. -/
import Derived.Test.YtdikfldogmbeaaaDoorBdSeq
namespace Go.Proofs.YtdikfldogmbeaaaDoor.Bd
open Go.RowKit Go.Frm

theorem lev_succ (q : Sq) (C L : Nat → Int) (k : Nat) : q.lev C L (k + 1) = q.imp C k (q.lev C L k) := rfl
theorem imp_bd (q : Sq) (C : Nat → Int) (k i : Nat) (L : Nat → Int) : L i ≤ q.imp C k L i ∧ q.imp C k L i ≤ L i + 2 := by
  unfold Sq.imp
  split
  · unfold upd; split
    · rename_i h; subst h; omega
    · omega
  · split
    · unfold upd; split
      · rename_i h; subst h; omega
      · omega
    · split
      · unfold upd; split
        · rename_i h; subst h; omega
        · omega
      · omega
theorem lev_bd (q : Sq) (C L : Nat → Int) (i : Nat) : ∀ k : Nat, L i ≤ q.lev C L k i ∧ q.lev C L k i ≤ L i + 2 * k
  | 0 => by simp [Sq.lev]
  | k + 1 => by
    have h1 := lev_bd q C L i k
    have h2 := imp_bd q C k i (q.lev C L k)
    rw [lev_succ]
    omega
/-- the levels change -/
theorem QM.lvl {w w' : World} {s G ga ca gw : Nat} {q : Sq} {At : Option Addr} {ct n gc gl : Nat} {base : Int} {go : Nat} {mt : Value} {C : Nat → Int} (h : QM w s G ga ca gw q At ct n gc gl base go mt C) (hg : Chg (Is gl) w w') (h1 : s ≠ gl ∧ G ≠ gl) (h2 : ga ≠ gl ∧ gw ≠ gl ∧ gc ≠ gl) : QM w' s G ga ca gw q At ct n gc gl base go mt C :=
  ⟨blk_chg h.sb hg h1.1, blk_chg h.pa hg h1.2, rd_chg h.ra hg h2.1, rd_chg h.ow hg h2.2.1, h.cl.chg hg h2.2.2, h.lt, h.ne⟩
section
variable {w w' : World} {s G ga ca gw : Nat} {q : Sq} {At : Option Addr} {ct n gc gl : Nat} {base : Int} {go : Nat} {mt : Value} {C : Nat → Int}
set_option maxRecDepth 100000 in
set_option maxHeartbeats 8000000 in
theorem implicit_ok (h : QM w s G ga ca gw q At ct n gc gl base go mt C) (L : Nat → Int) (hL : BI w gl n L) (hb : ∀ i, i < n → 0 ≤ L i ∧ L i ≤ 1000000000000) (hm : q.n ≤ 100000) (hlv : 0 ≤ q.lv ∧ q.lv ≤ 1000) (hne : ga ≠ gl ∧ gw ≠ gl ∧ gc ≠ gl) :
    Calls Tryd.prog 25 #[.pointer (some ⟨s, 0, none⟩)] w fun e w' => e = .returned (.tuple #[]) ∧ BI w' gl n (q.lev C L q.n) ∧ Chg (Is gl) w w' := by
  have H0 := hide h
  have hn1 : s ≠ gl ∧ G ≠ gl := ⟨blk_ne_type h.sb hL (by decide), blk_ne_type h.pa hL (by decide)⟩
  have Hb := hide hb
  have s1 := h.s1
  have hs := h.sb.lt
  have hz : 0 < q.n → w.cell? ⟨ga, 0, none⟩ = some (.int .i64 (q.A 0 : Int)) := fun hh => h.at_ hh
  have Hz := hide hz
  clear h hb hz
  go_enter Tryd.func25, Tryd.ntmps25
  go_wp2_with fail
  go_loopw [10] (fun i wr => ∃ k : Nat, k ≤ q.n ∧ i = .int .i64 k ∧ BI wr gl n (q.lev C L k) ∧ Chg (Is gl) w wr) (fun i _ => q.n - (intOf i).toNat)
  case atStart => exact ⟨0, Nat.zero_le _, rfl, hL, Chg.refl _ _⟩
  case round =>
    clear s1 hL
    obtain ⟨k, hk, rfl, hbi, hgr⟩ := hrel
    by_cases hlt : k < q.n
    · have Hq := hide (H0.out.lvl hgr hn1 hne)
      have Hnx := hide (lev_succ q C L k)
      obtain ⟨E, HE⟩ : ∃ E, Hid (E = q.lev C L k) := ⟨_, rfl⟩
      have hbd := lev_bd q C L (q.A k) k
      have hbA := Hb.out (q.A k) (H0.out.lt k hlt)
      rw [← HE.out] at Hnx hbi hbd
      have hsr := Hq.out.sb.lt
      have hGr := Hq.out.pa.lt
      have s0 := Hq.out.s0
      have s3 := Hq.out.s3
      have p2 : wr.cell? ⟨G, 2, none⟩ = some (.slice (some ⟨gl, 0, none⟩) n n) := Hq.out.pa.cell 2
      have ak := Hq.out.at_ hlt
      have hAk := H0.out.lt k hlt
      have lim : k ≤ 100000 := by omega
      have ck := hbi.cell hAk
      have fk := hbi.frozen (q.A k)
      have Hbi := hide hbi
      obtain ⟨v, Hv⟩ : ∃ v, Hid (v = q.get C k) := ⟨_, rfl⟩
      have Hget := hide (get_ok Hq.out k k rfl)
      rw [← Hv.out] at Hget
      obtain ⟨a, Ha⟩ : ∃ a, Hid (a = q.A k) := ⟨_, rfl⟩
      obtain ⟨x, Hx⟩ : ∃ x, Hid (x = E a) := ⟨_, rfl⟩
      rw [← Ha.out] at ak hAk ck fk hbd hbA
      rw [← Hx.out] at ck hbd
      have hx0 : 0 ≤ x := by omega
      have hx1 : x ≤ 2000000000000 := by omega
      clear hbd hbA
      by_cases hp : q.lv % 2 = 0
      · have hp0 : (q.lv % 2 == 0) = true := by simpa using hp
        have hp1 : (q.lv % 2 == 1) = false := by rw [beq_eq_false_iff_ne]; omega
        have Hp := hide hp
        clear hp
        cases h1 : (v == 1) with
        | true =>
          have Hv1 : Hid (v = 1) := hide (by simpa using h1)
          have hn1' : (v != 1) = false := by rw [bne, h1]; rfl
          have hw : Hid (q.imp C k E = upd E (q.A k) (E (q.A k) + 1)) := hide (by unfold Sq.imp; rw [← Hv.out]; rw [if_pos ⟨Hp.out, Hv1.out⟩])
          go_wp2_with (go_at_call 36; refine Hget.out.mono ?_; rintro e9 w9 ⟨rfl, d1, rfl⟩)
          go_roundw
          case rel => exact ⟨k + 1, by omega, by go_num, by
            rw [Hnx.out, hw.out, ← Ha.out, ← Hx.out]
            exact (Hbi.out.drewN d1).set a (x + 1), (hgr.drewN d1).setCell (p := ⟨gl, a, none⟩) (.inl (show Is gl gl from rfl)) _⟩
          case measure => simp [intOf]; omega
        | false =>
          have Hv1 : Hid (¬ v = 1) := hide (by simpa using h1)
          have hn1' : (v != 1) = true := by rw [bne, h1]; rfl
          cases h3 : (v == 3) with
          | true =>
            have Hv3 : Hid (v = 3) := hide (by simpa using h3)
            have hw : Hid (q.imp C k E = upd E (q.A k) (E (q.A k) + 2)) := hide (by unfold Sq.imp; rw [← Hv.out]; rw [if_neg (fun h => Hv1.out h.2), if_pos ⟨Hp.out, .inl Hv3.out⟩])
            go_wp2_with (go_at_call 36; refine Hget.out.mono ?_; rintro e9 w9 ⟨rfl, d1, rfl⟩)
            go_roundw
            case rel => exact ⟨k + 1, by omega, by go_num, by
              rw [Hnx.out, hw.out, ← Ha.out, ← Hx.out]
              exact (Hbi.out.drewN d1).set a (x + 2), (hgr.drewN d1).setCell (p := ⟨gl, a, none⟩) (.inl (show Is gl gl from rfl)) _⟩
            case measure => simp [intOf]; omega
          | false =>
            have Hv3 : Hid (¬ v = 3) := hide (by simpa using h3)
            cases h6 : (v == 6) with
            | true =>
              have Hv6 : Hid (v = 6) := hide (by simpa using h6)
              have hw : Hid (q.imp C k E = upd E (q.A k) (E (q.A k) + 2)) := hide (by unfold Sq.imp; rw [← Hv.out]; rw [if_neg (fun h => Hv1.out h.2), if_pos ⟨Hp.out, .inr Hv6.out⟩])
              go_wp2_with (go_at_call 36; refine Hget.out.mono ?_; rintro e9 w9 ⟨rfl, d1, rfl⟩)
              go_roundw
              case rel => exact ⟨k + 1, by omega, by go_num, by
                rw [Hnx.out, hw.out, ← Ha.out, ← Hx.out]
                exact (Hbi.out.drewN d1).set a (x + 2), (hgr.drewN d1).setCell (p := ⟨gl, a, none⟩) (.inl (show Is gl gl from rfl)) _⟩
              case measure => simp [intOf]; omega
            | false =>
              have Hv6 : Hid (¬ v = 6) := hide (by simpa using h6)
              have hw : Hid (q.imp C k E = E) := hide (by unfold Sq.imp; rw [← Hv.out]; rw [if_neg (fun h => Hv1.out h.2), if_neg (fun h => h.2.elim Hv3.out Hv6.out), if_neg (fun h => by have := Hp.out; omega)])
              go_wp2_with (go_at_call 36; refine Hget.out.mono ?_; rintro e9 w9 ⟨rfl, d1, rfl⟩)
              go_roundw
              case rel => exact ⟨k + 1, by omega, by go_num, by
                rw [Hnx.out, hw.out]
                exact hbi, hgr.drewN d1⟩
              case measure => simp [intOf]; omega
      · have hp0 : (q.lv % 2 == 0) = false := by simpa using hp
        have hp2 : q.lv % 2 = 1 := by omega
        have hp1 : (q.lv % 2 == 1) = true := by simpa using hp2
        have Hp := hide hp
        have Hp2 := hide hp2
        clear hp hp2
        cases h1 : (v == 1) with
        | true =>
          have Hv1 : Hid (v = 1) := hide (by simpa using h1)
          have hn1' : (v != 1) = false := by rw [bne, h1]; rfl
          have hw : Hid (q.imp C k E = E) := hide (by unfold Sq.imp; rw [← Hv.out]; rw [if_neg (fun h => Hp.out h.1), if_neg (fun h => Hp.out h.1), if_neg (fun h => h.2 Hv1.out)])
          go_wp2_with (go_at_call 36; refine Hget.out.mono ?_; rintro e9 w9 ⟨rfl, d1, rfl⟩)
          go_roundw
          case rel => exact ⟨k + 1, by omega, by go_num, by
            rw [Hnx.out, hw.out]
            exact hbi, hgr.drewN d1⟩
          case measure => simp [intOf]; omega
        | false =>
          have Hv1 : Hid (¬ v = 1) := hide (by simpa using h1)
          have hn1' : (v != 1) = true := by rw [bne, h1]; rfl
          have hw : Hid (q.imp C k E = upd E (q.A k) (E (q.A k) + 1)) := hide (by unfold Sq.imp; rw [← Hv.out]; rw [if_neg (fun h => Hp.out h.1), if_neg (fun h => Hp.out h.1), if_pos ⟨Hp2.out, Hv1.out⟩])
          go_wp2_with (go_at_call 36; refine Hget.out.mono ?_; rintro e9 w9 ⟨rfl, d1, rfl⟩)
          go_roundw
          case rel => exact ⟨k + 1, by omega, by go_num, by
            rw [Hnx.out, hw.out, ← Ha.out, ← Hx.out]
            exact (Hbi.out.drewN d1).set a (x + 1), (hgr.drewN d1).setCell (p := ⟨gl, a, none⟩) (.inl (show Is gl gl from rfl)) _⟩
          case measure => simp [intOf]; omega
    · obtain rfl : k = q.n := by omega
      go_wp2_with fail
      refine bodyPost_end (results_none rfl _ _ _) rfl ?_
      exact ⟨rfl, hbi, hgr⟩
end
end Go.Proofs.YtdikfldogmbeaaaDoor.Bd
