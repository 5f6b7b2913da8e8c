/- The contract of printing.Several. -/
import Derived.Test.YtlipdhoeklgdoaaPcOrder
namespace Go.Proofs.Ytlipdhoeklgdoaa.Pc
open Go.RowKit Go.Frm

theorem ints_info : (Try.prog.info? 22).map (fun i => (i.zero, i.size, i.bytes)) = some (some (.slice none 0 0), 1, 24) := by kernel_rfl
theorem cd_zero {m K : Nat} (hm : 1 ≤ m) (h : K % m = 0) : cd m K = K / m := by
  have h1 := Nat.div_add_mod K m
  unfold cd
  rw [h, Nat.add_zero] at h1
  have h2 : K + m - 1 = m * (K / m) + (m - 1) := by omega
  rw [h2, Nat.mul_add_div hm, Nat.div_eq_of_lt (show m - 1 < m by omega), Nat.add_zero]
theorem cd_more {m K : Nat} (hm : 1 ≤ m) (h : K % m ≠ 0) : cd m K = K / m + 1 := by
  have h1 := Nat.div_add_mod K m
  have h3 := Nat.mod_lt K hm
  unfold cd
  have h2 : K + m - 1 = m * (K / m + 1) + (K % m - 1) := by rw [Nat.mul_add]; omega
  rw [h2, Nat.mul_add_div hm, Nat.div_eq_of_lt (show K % m - 1 < m by omega), Nat.add_zero]
theorem cd_next {m K : Nat} (hm : 1 ≤ m) : cd m (K + 1) = K / m + 1 := by
  have h1 := Nat.div_add_mod K m
  have h3 := Nat.mod_lt K hm
  unfold cd
  have h2 : K + 1 + m - 1 = m * (K / m + 1) + (K % m) := by rw [Nat.mul_add]; omega
  rw [h2, Nat.mul_add_div hm, Nat.div_eq_of_lt h3, Nat.add_zero]
theorem sd_new {x : Nat → Int} {rows cols : Nat} {down : Bool} {K e : Nat} (h : K % (rows * cols) = 0) : sd x rows cols down K (K / (rows * cols)) e = 0 := by
  have h1 := Nat.div_add_mod K (rows * cols)
  rw [h, Nat.add_zero, Nat.mul_comm] at h1
  unfold sd
  rw [if_neg (by omega)]
theorem sd_step {x : Nat → Int} {rows cols : Nat} {down : Bool} {K s e : Nat} (hr : 1 ≤ rows) (hc : 1 ≤ cols) (he : e < rows * cols) :
    sd x rows cols down (K + 1) s e = if s = K / (rows * cols) ∧ e = pm rows cols down (K % (rows * cols)) then x K else sd x rows cols down K s e := by
  have hm : 1 ≤ rows * cols := Nat.mul_pos hr hc
  have h1 := Nat.div_add_mod K (rows * cols)
  rw [Nat.mul_comm] at h1
  obtain ⟨q1, q2⟩ := qm_bd down hr hc he
  by_cases h : s = K / (rows * cols) ∧ e = pm rows cols down (K % (rows * cols))
  · rw [if_pos h]
    obtain ⟨rfl, rfl⟩ := h
    have h3 := (pm_bd down hr hc (Nat.mod_lt K hm)).2
    unfold sd
    rw [h3, h1, if_pos (by omega)]
  · rw [if_neg h]
    unfold sd
    have hne : s * (rows * cols) + qm rows cols down e ≠ K := fun hK => by
      apply h
      have e1 : K / (rows * cols) = s := by rw [← hK, Nat.mul_comm, Nat.mul_add_div (by omega), Nat.div_eq_of_lt q1, Nat.add_zero]
      have e2 : K % (rows * cols) = qm rows cols down e := by rw [← hK, Nat.mul_comm, Nat.mul_add_mod, Nat.mod_eq_of_lt q1]
      exact ⟨e1.symm, by rw [e2, q2]⟩
    by_cases hlt : s * (rows * cols) + qm rows cols down e < K
    · rw [if_pos hlt, if_pos (by omega)]
    · rw [if_neg hlt, if_neg (by omega)]

/-- sides that are being filled -/
structure Sides (m S : Nat) (f : Nat → Nat → Int) (Ao : Option Addr) (co : Nat) (Af : Nat → Option Addr) (cf : Nat → Nat) (w0 wc : World) : Prop where
  out : wc.ownsRow w0.heap.size 22 1 (.slice Ao S co) S (tabV S (fun s => .slice (Af s) m (cf s)))
  inn : ∀ s, s < S → wc.ownsRow w0.heap.size 3 1 (.slice (Af s) m (cf s)) m (tabV m (fun e => .int .i64 (f s e)))
  ne : ∀ s s', s < S → s' < S → s ≠ s' → Af s ≠ Af s'
  bel : Below w0.heap.size w0 wc
theorem Sides.congr {m S : Nat} {f f' : Nat → Nat → Int} {Ao : Option Addr} {co : Nat} {Af : Nat → Option Addr} {cf : Nat → Nat} {w0 wc : World} (h : Sides m S f Ao co Af cf w0 wc) (hf : ∀ s e, s < S → e < m → f s e = f' s e) : Sides m S f' Ao co Af cf w0 wc :=
  ⟨h.out, fun s hs => by
    have e : tabV m (fun e => Value.int .i64 (f s e)) = tabV m (fun e => Value.int .i64 (f' s e)) := tabV_congr (fun e he => by rw [hf s e hs he])
    rw [← e]; exact h.inn s hs, h.ne, h.bel⟩
theorem Sides.set_ {m S : Nat} {f : Nat → Nat → Int} {Ao : Option Addr} {co : Nat} {Af : Nat → Option Addr} {cf : Nat → Nat} {w0 wc : World} (h : Sides m S f Ao co Af cf w0 wc) {s0 g : Nat} (hs0 : s0 < S) (hA : Af s0 = some ⟨g, 0, none⟩) (hg : w0.heap.size ≤ g) (j : Nat) (x : Int) :
    Sides m S (fun s e => if s = s0 ∧ e = j then x else f s e) Ao co Af cf w0 (wc.setCell ⟨g, j, none⟩ (.int .i64 x)) := by
  have h0 := h.inn s0 hs0
  rw [hA] at h0
  refine ⟨own_far h.out h0 (by decide) j _, fun s hs => ?_, h.ne, h.bel.setCell (p := ⟨g, j, none⟩) hg _⟩
  by_cases hss : s = s0
  · subst hss
    rw [hA]
    have h1 := own_store h0 j (.int .i64 x)
    have e : tabV m (upd (fun e => Value.int .i64 (f s e)) j (.int .i64 x)) = tabV m (fun e => .int .i64 (if s = s ∧ e = j then x else f s e)) := by
      refine tabV_congr (fun e _ => ?_)
      by_cases hej : e = j
      · subst hej; rw [upd_same, if_pos ⟨rfl, rfl⟩]
      · rw [upd_other _ _ hej, if_neg (fun hh => hej hh.2)]
    rw [← e]
    exact h1
  · have h1 := h.inn s hs
    have hk := h1.kept (h0.stored j (.int .i64 x)).2 (by
      have hne := h.ne s s0 hs hs0 hss
      rw [hA] at hne
      rcases h1.2 with ⟨hv, _⟩ | ⟨g1, cap, cur, hv, _⟩
      · rw [hv]; exact .inl rfl
      · right
        rw [hv]
        intro hh
        have : g1 = g := by simpa [Value.ownBlock] using hh
        subst this
        injection hv with hv1
        exact hne hv1)
    have e : tabV m (fun e => Value.int .i64 (if s = s0 ∧ e = j then x else f s e)) = tabV m (fun e => Value.int .i64 (f s e)) := tabV_congr (fun e _ => by rw [if_neg (fun hh => hss hh.1)])
    rw [e]
    exact hk
/-- a new empty side behind the others -/
theorem Sides.push {m S : Nat} {f : Nat → Nat → Int} {Ao : Option Addr} {co : Nat} {Af : Nat → Option Addr} {cf : Nat → Nat} {w0 wc w1 w2 w3 : World} {v : Value} {g : Nat} (h : Sides m S f Ao co Af cf w0 wc) (hg : g = wc.heap.size) (hz : ∀ e, e < m → f S e = 0)
    (hnew : w1.ownsRow w0.heap.size 3 1 (.slice (some ⟨g, 0, none⟩) m m) m (tabV m (fun _ => .int .i64 0))) (hgrow : wc.grownBy w1 none) (hal : w2 = w1.alloc (.cells #[.slice (some ⟨g, 0, none⟩) m m] 22))
    (hown : w3.ownsRow w0.heap.size 22 1 v (S + 1) (tabV S (fun s => .slice (Af s) m (cf s)) ++ [.slice (some ⟨g, 0, none⟩) m m])) (hgrow3 : w2.grownBy w3 (Value.slice Ao S co).ownBlock) :
    ∃ Ao' co' , v = .slice Ao' (S + 1) co' ∧ Sides m (S + 1) f Ao' co' (upd Af S (some ⟨g, 0, none⟩)) (upd cf S m) w0 w3 := by
  obtain ⟨Ao', co', rfl⟩ := own_form hown
  subst hal
  have ho2 := (own_made h.out hgrow).alloc (.cells #[.slice (some ⟨g, 0, none⟩) m m] 22)
  have hb1 := below_made h.bel h.bel.size hgrow
  have hb2 := hb1.alloc hb1.size (.cells #[.slice (some ⟨g, 0, none⟩) m m] 22)
  refine ⟨Ao', co', rfl, ?_, fun s hs => ?_, fun s s' hs hs' hss => ?_, below_app hb2 hb2.size ho2 hgrow3⟩
  · have e : tabV (S + 1) (fun s => Value.slice (upd Af S (some ⟨g, 0, none⟩) s) m (upd cf S m s)) = tabV S (fun s => .slice (Af s) m (cf s)) ++ [.slice (some ⟨g, 0, none⟩) m m] := by
      rw [tabV_succ]
      congr 1
      · exact tabV_congr (fun s hs => by rw [upd_other _ _ (by omega), upd_other _ _ (by omega)])
      · rw [upd_same, upd_same]
    rw [e]
    exact hown
  · by_cases hsS : s = S
    · subst hsS
      rw [upd_same, upd_same]
      have e : tabV m (fun e => Value.int .i64 (f s e)) = tabV m (fun _ => .int .i64 0) := tabV_congr (fun e he => by rw [hz e he])
      rw [e]
      exact (hnew.alloc _).kept hgrow3 (own_ne (hnew.alloc _) ho2 (by decide))
    · rw [upd_other _ _ hsS, upd_other _ _ hsS]
      have h1 := (own_made (h.inn s (by omega)) hgrow).alloc (.cells #[.slice (some ⟨g, 0, none⟩) m m] 22)
      exact h1.kept hgrow3 (own_ne h1 ho2 (by decide))
  · have old : ∀ t, t < S → Af t ≠ some ⟨g, 0, none⟩ := fun t ht hh => by
      have h1 := h.inn t ht
      rw [hh] at h1
      rcases h1.2 with ⟨hv, _⟩ | ⟨g1, cap, cur, hv, _, h2, _⟩
      · cases hv
      · have e : g = g1 := by injection hv with hv; injection hv with hv; injection hv
        have := (Array.getElem?_eq_some_iff.1 h2).1
        omega
    by_cases h1 : s = S
    · subst h1
      rw [upd_same, upd_other _ _ (by omega)]
      exact fun hh => old s' (by omega) hh.symm
    · by_cases h2 : s' = S
      · subst h2
        rw [upd_same, upd_other _ _ h1]
        exact old s (by omega)
      · rw [upd_other _ _ h1, upd_other _ _ h2]
        exact h.ne s s' (by omega) (by omega) hss

def SevPost (x : Nat → Int) (N rows cols : Nat) (down : Bool) (w : World) (e : Ending) (w' : World) : Prop :=
  ∃ (Ao : Option Addr) (co : Nat) (Af : Nat → Option Addr) (cf : Nat → Nat), e = .returned (.tuple #[.slice Ao (cd (rows * cols) N) co, .int .i64 0]) ∧ Sides (rows * cols) (cd (rows * cols) N) (sd x rows cols down N) Ao co Af cf w w'

set_option maxRecDepth 100000 in
set_option maxHeartbeats 8000000 in
theorem several_ok (A : Option Addr) (cz N rows cols : Nat) (x : Nat → Int) (down : Bool) (w : World) (hr : RdI w A (tab N x)) (hN : N ≤ 200) (hx : ∀ i, i < N → 1 ≤ x i ∧ x i ≤ 60) (hr0 : 1 ≤ rows) (hr1 : rows ≤ 4) (hc0 : 1 ≤ cols) (hc1 : cols ≤ 4) :
    Calls Try.prog 10 #[.slice A N cz, .int .i64 rows, .int .i64 cols, .bool down] w (SevPost x N rows cols down w) := by
  have hch := hide (check_ok A cz (tab N x) w hr (by rw [tab_length]; omega) (fun i hi => by rw [tab_length] at hi; rw [tab_ix x hi]; have := hx i hi; omega))
  rw [tab_length] at hch
  have hm1 : 1 ≤ rows * cols := Nat.mul_pos hr0 hc0
  have hm2 : rows * cols ≤ 16 := Nat.mul_le_mul hr1 hc1
  have hmc : (rows : Int) * (cols : Int) = ((rows * cols : Nat) : Int) := by simp
  have q1 : decide ((rows : Int) < 1) = false := by simp; omega
  have q2 : decide ((rows : Int) > 8) = false := by simp; omega
  have q3 : decide ((cols : Int) < 1) = false := by simp; omega
  have q4 : decide ((cols : Int) > 8) = false := by simp; omega
  have q5 : (((rows * cols : Nat) : Int) == 0) = false := by rw [beq_eq_false_iff_ne]; omega
  have q6 : ((rows : Int) == 0) = false := by rw [beq_eq_false_iff_ne]; omega
  have Hx := hide hx
  clear hx
  have Hzero := hide (show cd (rows * cols) 0 = 0 by rw [cd_zero hm1 (Nat.zero_mod _)]; exact Nat.zero_div _)
  have Hcz := hide (fun K (h : K % (rows * cols) = 0) => cd_zero hm1 h)
  have Hcm := hide (fun K (h : K % (rows * cols) ≠ 0) => cd_more hm1 h)
  have Hcn := hide (fun K => cd_next (K := K) hm1)
  have Hsn := hide (fun K e (h : K % (rows * cols) = 0) => sd_new (x := x) (down := down) (e := e) h)
  have Hss := hide (fun K s e (he : e < rows * cols) => sd_step (x := x) (down := down) (K := K) (s := s) hr0 hc0 he)
  have Hpm := hide (fun i (hi : i < rows * cols) => pm_bd down hr0 hc0 hi)
  unfold SevPost
  generalize rows * cols = m at *
  go_enter Try.func10, Try.ntmps10
  go_wp2_with fail
  refine hch.out.mono ?_
  rintro e w1 ⟨rfl, rfl⟩
  go_wp2_with fail
  go_loopw [11, 36] (fun o s wr => ∃ (K : Nat) (Ao : Option Addr) (co : Nat) (Af : Nat → Option Addr) (cf : Nat → Nat), K ≤ N ∧ s = .int .i64 K ∧ o = .slice Ao (cd m K) co ∧ Sides m (cd m K) (sd x rows cols down K) Ao co Af cf w wr) (fun _ s _ => N - (intOf s).toNat)
  case atStart => exact ⟨0, none, 0, fun _ => none, fun _ => 0, by omega, rfl, by rw [Hzero.out], by rw [Hzero.out]; exact ⟨World.ownsRow_nil _ _ _ _, fun s hs => by omega, fun s _ hs => by omega, Below.refl _ _⟩⟩
  case round =>
    clear hch Hzero
    obtain ⟨K, Ao, co, Af, cf, hK, rfl, rfl, hs⟩ := hrel
    by_cases hlt : K < N
    · obtain ⟨b, off, rfl, kz⟩ := (hr.below hs.bel).at_ (k := K) (by rw [tab_length]; exact hlt)
      rw [tab_ix x hlt] at kz
      have hmod := Nat.mod_lt K hm1
      have e1 : (K : Int).tmod (m : Int) = ((K % m : Nat) : Int) := by rw [Int.tmod_eq_emod_of_nonneg (by omega)]; simp
      have e2 : (K : Int) % (m : Int) = ((K % m : Nat) : Int) := by simp
      have hcb : cd m K ≤ K + 1 := by
        unfold cd
        exact Nat.div_le_of_le_mul (by rw [Nat.mul_add]; have := Nat.le_mul_of_pos_left K hm1; omega)
      generalize hi : K % m = i at *
      have Hi := hide hi
      clear hi
      have hSd : K / m ≤ K := Nat.div_le_self K m
      have hq200 : K / m ≤ 200 := by omega
      go_upto_if 47 with fail
      go_cut [11] (fun o wc => ∃ (Ao : Option Addr) (co : Nat) (Af : Nat → Option Addr) (cf : Nat → Nat), o = .slice Ao (K / m + 1) co ∧ Sides m (K / m + 1) (sd x rows cols down K) Ao co Af cf w wc)
      case first =>
        by_cases h0 : i = 0
        · have hcd := Hcz.out K (by rw [Hi.out]; exact h0)
          have hz := fun e (_ : e < m) => Hsn.out K e (by rw [Hi.out]; exact h0)
          rw [hcd] at hs ⊢
          have Hz := hide hz
          subst h0
          clear hz hcd hcb
          generalize K / m = S at *
          go_wp2_with (first
            | (at_make; refine wpL_make1 (base := w.heap.size) (n := m) rfl rfl Try.underlying22 int_info rfl rfl rfl rfl rfl (by omega) (by omega) hs.bel.size ?_; intro w3 hown3 hgrow3)
            | (at_builtin; refine wpL_append (size := 1) rfl rfl Try.underlying28 ints_info rfl (by decide) rfl rfl ((own_made hs.out hgrow3).alloc (.cells #[.slice (some ⟨wr.heap.size, 0, none⟩) m m] 22)) (news_at w3 #[.slice (some ⟨wr.heap.size, 0, none⟩) m m] 22 w3.heap.size rfl) rfl (by simp [Value.oneCell']) (by omega) (by omega) (by have := hs.bel.size; have := hgrow3.size; simp; omega) ?_; intro v5 w5 hown5 hgrow5))
          go_meet
          obtain ⟨Ao', co', rfl, hs'⟩ := hs.push rfl Hz.out hown3 hgrow3 rfl hown5 hgrow5
          exact ⟨Ao', co', _, _, rfl, hs'⟩
        · have hcd := Hcm.out K (by rw [Hi.out]; exact h0)
          rw [hcd] at hs ⊢
          have d0 : ((i : Int) == 0) = false := by rw [beq_eq_false_iff_ne]; omega
          have hcd' := hide hcd
          clear hcd h0
          go_wp2_with fail
          go_meet
          exact ⟨Ao, co, Af, cf, rfl, hs⟩
      case rest =>
        clear hs
        obtain ⟨Ao, co, Af, cf, rfl, hs⟩ := hcut
        have hs0 : K / m < K / m + 1 := by omega
        obtain ⟨g, hAg, hgg⟩ := own_at (hs.inn (K / m) hs0) (by omega)
        obtain ⟨go, rfl, hgo⟩ := own_at hs.out (Nat.succ_pos _)
        have ko := own_cell hs.out hs0
        rw [hAg] at ko
        obtain ⟨hp1, _⟩ := Hpm.out i hmod
        have hin := hs.inn (K / m) hs0
        rw [hAg] at hin
        have kp := own_cell hin hp1
        have zf := hin.frozenAt (pm rows cols down i)
        have hset := hs.set_ hs0 hAg hgg (pm rows cols down i) (x K)
        have hfin : Sides m (cd m (K + 1)) (sd x rows cols down (K + 1)) (some ⟨go, 0, none⟩) co Af cf w (wc.setCell ⟨g, pm rows cols down i, none⟩ (.int .i64 (x K))) := by
          rw [Hcn.out K]
          refine hset.congr (fun s e _ he => ?_)
          rw [Hss.out K s e he, Hi.out]
        have hfinD : ∀ d, Sides m (cd m (K + 1)) (sd x rows cols down (K + 1)) (some ⟨go, 0, none⟩) co Af cf w ((wc.drewN d).setCell ⟨g, pm rows cols down i, none⟩ (.int .i64 (x K))) := fun d => by
          have hsd : Sides m (K / m + 1) (sd x rows cols down K) (some ⟨go, 0, none⟩) co Af cf w (wc.drewN d) := ⟨hs.out, hs.inn, hs.ne, below_drewN hs.bel d⟩
          rw [Hcn.out K]
          refine (hsd.set_ hs0 hAg hgg (pm rows cols down i) (x K)).congr (fun s e _ he => ?_)
          rw [Hss.out K s e he, Hi.out]
        have Hfin := hide hfin
        have HfinD := hide hfinD
        have Hcn' := hide (Hcn.out K)
        have hpd : pm rows cols down i = if down then i % rows * cols + i / rows else i := rfl
        have a1 : i % rows ≤ 3 := by have := Nat.mod_lt i hr0; omega
        have a2 : i / rows ≤ 16 := by have := Nat.div_le_self i rows; omega
        have a3 : i % rows * cols ≤ 12 := by have := Nat.mul_le_mul a1 hc1; omega
        have m1 : (i : Int).tmod (rows : Int) = ((i % rows : Nat) : Int) := by rw [Int.tmod_eq_emod_of_nonneg (by omega)]; simp
        have m2 : (i : Int) % (rows : Int) = ((i % rows : Nat) : Int) := by simp
        have m3 : (i : Int) / (rows : Int) = ((i / rows : Nat) : Int) := by simp
        have m4 : ((i % rows : Nat) : Int) * (cols : Int) = ((i % rows * cols : Nat) : Int) := by simp
        clear hs hset hfin hfinD hin hAg hs0
        generalize hP : pm rows cols down i = Q at *
        have HP := hide hP
        clear hP
        generalize i % rows * cols = B at *
        generalize i % rows = C at *
        generalize i / rows = E at *
        generalize K / m = S at *
        have hQ0 : (Q : Int) < (m : Int) := by omega
        have hS1 : ((S : Int) + 1) - 1 = (S : Int) := by omega
        cases down with
        | false =>
          simp only [Bool.false_eq_true, if_false] at hpd
          subst hpd
          go_wp2_with fail
          go_roundw
          case rel => exact ⟨K + 1, _, _, _, _, by omega, by go_num, by rw [Hcn'.out], Hfin.out⟩
          case measure => simp [intOf]; omega
        | true =>
          simp only [if_true] at hpd
          have w1 : (B : Int) + (E : Int) = (Q : Int) := by omega
          clear hpd
          go_upto_region 14 with fail
          go_quiet (fail)
          go_wp2_with fail
          go_roundw
          case rel => exact ⟨K + 1, _, _, _, _, by omega, by go_num, by rw [Hcn'.out], HfinD.out _⟩
          case measure => simp [intOf]; omega
    · obtain rfl : K = N := by omega
      go_wp2_with fail
      go_ret2
      exact ⟨Ao, co, Af, cf, rfl, hs⟩
end Go.Proofs.Ytlipdhoeklgdoaa.Pc
