/- The contract of (*seq).pairs. -/
import Derived.Test.YtdikfldogmbeaaaDoorBdBrkPlain
import Derived.Test.YtdikfldogmbeaaaDoorBdTable
import Derived.Test.YtdikfldogmbeaaaDoorBdSeqMem
import Derived.Test.YtdikfldogmbeaaaDoorBdStack
import Derived.Test.YtdikfldogmbeaaaDoorListed
import Derived.Deep.CutBlock
import Derived.StillTailTactics
namespace Go.Proofs.YtdikfldogmbeaaaDoor.Bd
open Go.RowKit Go.Frm

theorem op_info : (Tryd.prog.info? 85).map (fun i => (i.zero, i.size, i.bytes)) = some (some (.agg #[.int .i64 0, .int .i64 0]), 2, 16) := by kernel_rfl
theorem pair_info : (Tryd.prog.info? 69).map (fun i => (i.zero, i.size, i.bytes)) = some (some (.agg #[.int .i64 0, .int .i64 0]), 2, 16) := by kernel_rfl
/-- the brackets lie where their variable says -/
structure BrC (w : World) : Prop where
  ex : ∃ A c, w.cell? ⟨1, 0, none⟩ = some (.slice A 7 c) ∧ 7 ≤ c ∧ c ≤ 9223372036854775807 ∧ RdF w A 7 2 (fun i j => .int .i64 (tbV brTb i j))
theorem BrC.below {w w' : World} (h : BrC w) (hb : Below w.heap.size w w') : BrC w' := by
  obtain ⟨A, c, h1, h3, h4, h2⟩ := h.ex
  exact ⟨A, c, by rw [hb.cell (World.block_lt_of_cell? w _ h1)]; exact h1, h3, h4, h2.below hb⟩
theorem br_ne : ∀ j, j < 4 → tbV brTb j 0 ≠ tbV brTb j 1 := by decide
/-- rows of openers and of pairs -/
def opF (s : Bk) (i j : Nat) : Value := if j = 0 then .int .i64 (s.oc i) else .int .i64 (s.ok i : Nat)
def prF (a b : Nat → Nat) (i j : Nat) : Value := if j = 0 then .int .i64 (a i : Nat) else .int .i64 (b i : Nat)
theorem opF_push (s : Bk) (x : Int) (k : Nat) : rowF (s.m + 1) 2 (opF (bkOpen x k s)) = rowF s.m 2 (opF s) ++ [.int .i64 x, .int .i64 (k : Nat)] := by
  rw [rowF_succ, rowF_congr (f := opF (bkOpen x k s)) (g := opF s) (fun i j hi _ => by unfold opF bkOpen; simp only; rw [upd_other _ _ (by omega), upd_other _ _ (by omega)])]
  congr 1
  simp [opF, bkOpen, upd_same, List.range_succ]
theorem prF_push (a b : Nat → Nat) (n x y : Nat) : rowF (n + 1) 2 (prF (upd a n x) (upd b n y)) = rowF n 2 (prF a b) ++ [.int .i64 (x : Nat), .int .i64 (y : Nat)] := by
  rw [rowF_succ, rowF_congr (f := prF (upd a n x) (upd b n y)) (g := prF a b) (fun i j hi _ => by unfold prF; rw [upd_other _ _ (by omega), upd_other _ _ (by omega)])]
  congr 1
  simp [prF, upd_same, List.range_succ]
theorem QM.below {w w' : World} {s G ga ca gw : Nat} {q : Sq} {At : Option Addr} {ct n gc gl : Nat} {base : Int} {go : Nat} {mt : Value} {C : Nat → Int} (h : QM w s G ga ca gw q At ct n gc gl base go mt C) (hb : Below w.heap.size w w') : QM w' s G ga ca gw q At ct n gc gl base go mt C :=
  ⟨h.sb.below hb h.sb.lt, h.pa.below hb h.pa.lt, h.ra.below hb, h.ow.below hb, h.cl.blk.below hb h.cl.lt, h.lt, h.ne⟩
/-- what is found so far, in memory -/
structure KS (w wr : World) (s : Bk) (v3 v4 : Value) : Prop where
  ro : wr.ownsRow w.heap.size 85 2 v3 s.m (rowF s.m 2 (opF s))
  rp : wr.ownsRow w.heap.size 69 2 v4 s.n (rowF s.n 2 (prF s.pa s.pb))
  bl : Below w.heap.size w wr
section
variable {w wr : World} {s : Bk} {v3 v4 : Value}
theorem KS.drewN (h : KS w wr s v3 v4) (d : Nat) : KS w (wr.drewN d) s v3 v4 := ⟨h.ro, h.rp, below_drewN h.bl d⟩
theorem KS.alloc (h : KS w wr s v3 v4) (o : Obj) : KS w (wr.alloc o) s v3 v4 := ⟨h.ro.alloc o, h.rp.alloc o, h.bl.alloc h.bl.size o⟩
theorem KS.push (h : KS w wr s v3 v4) {x : Int} {k : Nat} {w3 : World} {v : Value} (hg : wr.grownBy w3 v3.ownBlock) (h3 : w3.ownsRow w.heap.size 85 2 v (s.m + 1) (rowF s.m 2 (opF s) ++ [.int .i64 x, .int .i64 (k : Nat)])) : KS w w3 (bkOpen x k s) v v4 := by
  refine ⟨?_, h.rp.kept hg (own_ne h.rp h.ro (by decide)), below_app h.bl h.bl.size h.ro hg⟩
  rw [← opF_push] at h3
  exact h3
theorem KS.hit {A : Option Addr} {c : Nat} (h : KS w wr s (.slice A s.m c) v4) {k m : Nat} (hm : m ≤ s.m) {w3 : World} {v : Value} (hg : wr.grownBy w3 v4.ownBlock) (h3 : w3.ownsRow w.heap.size 69 2 v (s.n + 1) (rowF s.n 2 (prF s.pa s.pb) ++ [.int .i64 (s.ok m : Nat), .int .i64 (k : Nat)])) :
    KS w w3 (bkHit k m s) (.slice A m c) v := by
  refine ⟨?_, ?_, below_app h.bl h.bl.size h.rp hg⟩
  · have h1 := h.ro.kept hg (own_ne h.ro h.rp (by decide))
    exact own_takeF h1 hm
  · rw [← prF_push] at h3
    exact h3
end
section
variable {w : World} {s G ga ca gw : Nat} {q : Sq} {At : Option Addr} {ct n gc gl : Nat} {base : Int} {go : Nat} {mt : Value} {C : Nat → Int}
set_option maxRecDepth 100000 in
set_option maxHeartbeats 8000000 in
theorem pairs_seq_ok (h : QM w s G ga ca gw q At ct n gc gl base go mt C) (hm : q.n ≤ 100000) (X : Nat → Int) (hX : RdI w At (tab n X)) (hB : BrC w) :
    Calls Tryd.prog 41 #[.pointer (some ⟨s, 0, none⟩)] w fun e w' => ∃ A c, e = .returned (.slice A (q.prs (tbV brTb) X C).1 c) ∧
      w'.ownsRow w.heap.size 69 2 (.slice A (q.prs (tbV brTb) X C).1 c) (q.prs (tbV brTb) X C).1 (rowF (q.prs (tbV brTb) X C).1 2 (prF (q.prs (tbV brTb) X C).2.a (q.prs (tbV brTb) X C).2.b)) ∧ PsOk (q.prs (tbV brTb) X C).2 (q.prs (tbV brTb) X C).1 q.n ∧ Below w.heap.size w w' := by
  obtain ⟨P, HP⟩ : ∃ P, Hid (P = q.prs (tbV brTb) X C) := ⟨_, rfl⟩
  rw [← HP.out]
  have H := hide h
  have HX := hide hX
  have s1 := h.s1
  have hs := h.sb.lt
  obtain ⟨Ab, cb, hgb, hcb, hcb2, hrb⟩ := hB.ex
  have Hrb := hide hrb
  clear h hX hB hrb
  go_enter Tryd.func41, Tryd.ntmps41
  go_upto_block 0 with fail
  go_cut [4] (fun v4 wc => ∃ sf v3, Hid (q.bks (tbV brTb) X C q.n = some sf) ∧ KS w wc sf v3 v4 ∧ Hid (BkOk sf (4 * q.n) q.n))
  case first => as_aux_lemma =>
    go_wp2_with fail
    go_loopw [3, 4, 18] (fun v3 v4 a wr => ∃ (k : Nat) (st : Bk), k ≤ q.n ∧ a = .int .i64 k ∧ Hid (q.bks (tbV brTb) X C k = some st) ∧ KS w wr st v3 v4 ∧ Hid (BkOk st (4 * k) k)) (fun _ _ a _ => q.n - (intOf a).toNat)
    case atStart => exact ⟨0, bk0, Nat.zero_le _, rfl, hide rfl, ⟨World.ownsRow_nil _ _ _ _, World.ownsRow_nil _ _ _ _, Below.refl _ _⟩, hide BkOk.start⟩
    case round =>
      obtain ⟨wo, rfl⟩ : ∃ wx : World, wx = wr := ⟨_, rfl⟩
      obtain ⟨k, st, hk, rfl, Hst, hks, Hok⟩ := hrel
      by_cases hlt : k < q.n
      · have hQ := H.out.below hks.bl
        have Hg := hide (get_in hQ hlt (k : Int) rfl)
        have a1 := hQ.at_ hlt
        have r0 : wo.cell? ⟨s, 0, none⟩ = some (.pointer (some ⟨G, 0, none⟩)) := hQ.s0
        have hAk := hQ.lt k hlt
        have p0 : wo.cell? ⟨G, 0, none⟩ = some (.slice At n ct) := hQ.pa.cell 0
        have hso := hQ.sb.lt
        have gb : wo.cell? ⟨1, 0, none⟩ = some (.slice Ab 7 cb) := (hks.bl.cell (p := ⟨1, 0, none⟩) (World.block_lt_of_cell? _ _ hgb)).trans hgb
        have hcb0 : ¬ cb = 0 := by omega
        have hcb4 : 4 ≤ cb := by omega
        obtain ⟨bb, ob, hAb, _⟩ := Hrb.out.at_ (k := 0) (by omega)
        subst hAb
        have hGo := hQ.pa.lt
        obtain ⟨bt, offt, hAt, hct⟩ := (HX.out.below hks.bl).at_ (k := q.A k) (by rw [tab_length]; exact hAk)
        rw [tab_ix _ hAk] at hct
        subst hAt
        have Hnx := hide (bks_next Hst.out)
        have Hge : Hid (q.get C k = C (q.A k)) := hide (if_pos hlt)
        rw [Hge.out] at Hnx
        clear hQ Hge
        generalize C (q.A k) = v at *
        generalize X (q.A k) = c at *
        generalize q.A k = i at *
        cases h13 : (v == 13) with
        | false =>
          have Hn2 : Hid (q.bks (tbV brTb) X C (k + 1) = some st) := hide (by rw [Hnx.out, h13]; rfl)
          clear Hnx
          go_wp2_with fail
          refine Hg.out.mono ?_
          rintro e9 w9 ⟨rfl, d, rfl⟩
          go_wp2_with fail
          go_roundw
          case rel => exact ⟨k + 1, st, by omega, by go_num, Hn2, hks.drewN d, hide (Hok.out.mono (by omega) (by omega))⟩
          case measure => simp [intOf]; omega
        | true =>
          have Hn2 : Hid (q.bks (tbV brTb) X C (k + 1) = bkAll (tbV brTb) c k st 4) := hide (by rw [Hnx.out, h13]; rfl)
          obtain rfl : v = 13 := by simpa using h13
          clear Hnx h13
          go_upto_block 2 with (go_at_call 36; refine Hg.out.mono ?_; rintro e9 w9 ⟨rfl, d, rfl⟩)
          have hkd := hks.drewN d
          clear Hg a1 r0 p0 hct hso hGo gb
          generalize wo.drewN d = w1 at *
          go_wp2_with fail
          go_loopw [3, 4, 40] (fun v3 v4 a wr => ∃ (j : Nat) (s2 : Bk), j ≤ 4 ∧ a = .int .i64 j ∧ Hid (bkAll (tbV brTb) c k st j = some s2) ∧ KS w wr s2 v3 v4 ∧ Hid (BkOk s2 (4 * k + j) (k + 1))) (fun _ _ a _ => 4 - (intOf a).toNat)
          case atStart => exact ⟨0, st, by omega, rfl, hide rfl, hkd, hide (Hok.out.mono (by omega) (by omega))⟩
          case round =>
            obtain ⟨w2, rfl⟩ : ∃ wx : World, wx = wr := ⟨_, rfl⟩
            clear hkd
            obtain ⟨j, s2, hj, rfl, Hs2, hk2, Hok2⟩ := hrel
            by_cases hj4 : j < 4
            · obtain ⟨A3, c3, rfl⟩ := own_form hk2.ro
              obtain ⟨A4, c4, rfl⟩ := own_form hk2.rp
              have hr := ((Hrb.out.below hk2.bl)).at_ (k := j) (by omega)
              obtain ⟨b9, o9, e9, hc⟩ := hr
              obtain ⟨rfl, rfl⟩ : bb = b9 ∧ ob = o9 := by injection e9 with e9; injection e9 with e1 e2; exact ⟨e1, e2⟩
              have c0 : w2.cell? ⟨bb, ob + j * 2, none⟩ = some (.int .i64 (tbV brTb j 0)) := hc 0 (by omega)
              have c1 : w2.cell? ⟨bb, ob + j * 2 + 1, none⟩ = some (.int .i64 (tbV brTb j 1)) := hc 1 (by omega)
              have hne := br_ne j hj4
              have Hnx := hide (bkAll_next Hs2.out)
              have Hful := hide (bkOne_full (b := tbV brTb) (c := c) (k := k) (j := j) (s := s2))
              have Hpus := hide (bkOne_push (b := tbV brTb) (c := c) (k := k) (j := j) (s := s2))
              have Hclo := hide (bkOne_close (b := tbV brTb) (c := c) (k := k) (j := j) (s := s2))
              have Hski := hide (bkOne_skip (b := tbV brTb) (c := c) (k := k) (j := j) (s := s2))
              have hm63 := Hok2.out.m63
              have hcn := Hok2.out.cn
              have hsz2 := hk2.bl.size
              clear hc e9
              generalize tbV brTb j 0 = y0 at *
              generalize tbV brTb j 1 = y1 at *
              have hbox : Blk (w2.alloc (.cells #[.int .i64 y0, .int .i64 y1] 69)) w2.heap.size 69 #[.int .i64 y0, .int .i64 y1] := Blk.new _ _ _
              have hka := hk2.alloc (.cells #[.int .i64 y0, .int .i64 y1] 69)
              cases h0 : (c == y0) with
              | true =>
                have h1 : (c == y1) = false := by
                  have e0 : c = y0 := by simpa using h0
                  subst e0
                  simpa using hne
                by_cases hf : s2.m = 63
                · have hz : Hid (bkAll (tbV brTb) c k st 4 = none) := hide (by
                    have := bkAll_none (Hnx.out.trans (Hful.out h0 hf)) (4 - (j + 1))
                    rwa [show j + 1 + (4 - (j + 1)) = 4 by omega] at this)
                  have hz2 : Hid (P.1 = 0) := hide (by
                    rw [HP.out]
                    refine prs_none ?_
                    have := bks_none (Hn2.out.trans hz.out) (q.n - (k + 1))
                    rwa [show k + 1 + (q.n - (k + 1)) = q.n by omega] at this)
                  clear Hnx Hful Hpus Hclo Hski
                  rw [hf]
                  go_wp2_with fail
                  go_ret
                  rw [hz2.out]
                  exact ⟨none, 0, rfl, World.ownsRow_nil _ _ _ _, fun i hi => absurd hi (Nat.not_lt_zero i), hka.bl⟩
                · have Hn3 : Hid (bkAll (tbV brTb) c k st (j + 1) = some (bkOpen y1 k s2)) := hide (Hnx.out.trans (Hpus.out h0 hf h1))
                  have Hok3 := hide (Hok2.out.push (b1 := y1) hf)
                  have hfi : ((s2.m : Int) == 63) = false := by simp; omega
                  have hfi2 : ¬ (s2.m : Int) = 63 := by omega
                  clear Hnx Hful Hpus Hclo Hski
                  go_upto_region 15 with (at_builtin; refine wpL_append (size := 2) rfl rfl Tryd.underlying83 op_info rfl (by decide) rfl rfl (hka.ro.alloc _) (news_at _ _ _ _ (by simp)) rfl (by simp [Value.oneCell']) (by omega) (by omega) (by simp; omega) ?_; intro v7 w7 hown7 hgrow7)
                  have hb7 := (hbox.alloc (.cells #[.int .i64 y1, .int .i64 (k : Nat)] 85)).grown hgrow7 (blk_own_ne (hbox.alloc (.cells #[.int .i64 y1, .int .i64 (k : Nat)] 85)) (hka.ro.alloc (.cells #[.int .i64 y1, .int .i64 (k : Nat)] 85)) (by decide))
                  have e7 : w7.cell? ⟨w2.heap.size, 1, none⟩ = some (.int .i64 y1) := hb7.cell 1
                  have l7 := hb7.lt
                  go_wp2_with fail
                  go_roundw
                  case rel => exact ⟨j + 1, _, by omega, by go_num, Hn3, (hka.alloc _).push hgrow7 hown7, Hok3⟩
                  case measure => simp [intOf]; omega
              | false =>
                cases h1 : (c == y1) with
                | false =>
                  have Hn3 : Hid (bkAll (tbV brTb) c k st (j + 1) = some s2) := hide (Hnx.out.trans (Hski.out h0 h1))
                  clear Hnx Hful Hpus Hclo Hski
                  go_wp2_with fail
                  go_roundw
                  case rel => exact ⟨j + 1, s2, by omega, by go_num, Hn3, hka, hide (Hok2.out.mono (by omega) (by omega))⟩
                  case measure => simp [intOf]; omega
                | true =>
                  have Hn3 : Hid (bkAll (tbV brTb) c k st (j + 1) = some (bkClose c k s2)) := hide (Hnx.out.trans (Hclo.out h0 h1))
                  have Hok3 := hide (Hok2.out.close (c := c))
                  clear Hnx Hful Hpus Hclo Hski
                  have hle := closeAt_le s2.oc c s2.m
                  have Hhit := hide (fun m => bkClose_hit (c := c) (k := k) (m := m) (s := s2))
                  have Hnon := hide (bkClose_none (c := c) (k := k) (s := s2))
                  go_upto_block 4 with fail
                  generalize w2.alloc (.cells #[.int .i64 y0, .int .i64 y1] 69) = w3 at *
                  clear c0 c1 hbox
                  have hsz3 := hka.bl.size
                  go_wp2_with fail
                  go_loopw [3, 4, 10] (fun v3 v4 a wr => ∃ m : Nat, m ≤ s2.m ∧ v3 = .slice A3 s2.m c3 ∧ v4 = .slice A4 s2.n c4 ∧ a = .int .i64 ((m : Int) - 1) ∧ Hid (closeAt s2.oc c s2.m = closeAt s2.oc c m) ∧ w3 = wr) (fun _ _ a _ => (intOf a + 1).toNat)
                  case atStart => exact ⟨s2.m, Nat.le_refl _, rfl, rfl, by go_num, hide rfl, rfl⟩
                  case round =>
                    obtain ⟨m, hm2, rfl, rfl, rfl, Hcl, rfl⟩ := hrel
                    cases m with
                    | zero =>
                      have hc0 : Hid (bkClose c k s2 = s2) := hide (Hnon.out (Hcl.out.trans rfl))
                      go_wp2_with fail
                      go_roundw
                      case rel => exact ⟨j + 1, _, by omega, by go_num, Hn3, by rw [hc0.out]; exact hka, Hok3⟩
                      case measure => simp [intOf]; omega
                    | succ m =>
                      have hcn2 : Hid (closeAt s2.oc c (m + 1) = if s2.oc m == c then m + 1 else closeAt s2.oc c m) := hide rfl
                      obtain ⟨g3, rfl, hg3⟩ := own_at hka.ro (by omega)
                      have d0 : w3.cell? ⟨g3, m * 2, none⟩ = some (.int .i64 (s2.oc m)) := own_cellF hka.ro (i := m) (j := 0) (by omega) (by omega)
                      have d1 : w3.cell? ⟨g3, m * 2 + 1, none⟩ = some (.int .i64 (s2.ok m : Nat)) := own_cellF hka.ro (i := m) (j := 1) (by omega) (by omega)
                      have i1 : ((m + 1 : Nat) : Int) - 1 = (m : Int) := by omega
                      rw [i1]
                      have hcap := own_cap hka.ro
                      have hc3 : ¬ c3 = 0 := by omega
                      have lim : m ≤ 63 := by omega
                      cases ho : (s2.oc m == c) with
                      | false =>
                        have Hc2 : Hid (closeAt s2.oc c s2.m = closeAt s2.oc c m) := hide (by rw [Hcl.out, hcn2.out, ho]; rfl)
                        generalize s2.oc m = om at *
                        go_wp2_with fail
                        go_roundw
                        case rel => exact ⟨m, by omega, rfl, rfl, by go_num, Hc2, by first | rfl | trivial⟩
                        case measure => simp [intOf]
                      | true =>
                        have Hc2 : Hid (bkClose c k s2 = bkHit k m s2) := hide (Hhit.out m (by rw [Hcl.out, hcn2.out, ho]; rfl))
                        have Hokm : Hid (s2.ok m = s2.ok m) := hide rfl
                        generalize s2.oc m = om at *
                        go_wp2_with (at_builtin; refine wpL_append (size := 2) rfl rfl Tryd.underlying67 pair_info rfl (by decide) rfl rfl (hka.rp.alloc _) (news_at _ _ _ _ (by simp)) rfl (by simp [Value.oneCell']) (by omega) (by omega) (by simp; omega) ?_; intro v7 w7 hown7 hgrow7)
                        go_roundw
                        case rel => exact ⟨j + 1, _, by omega, by go_num, Hn3, by rw [Hc2.out]; exact (hka.alloc _).hit (by omega) hgrow7 hown7, Hok3⟩
                        case measure => simp [intOf]; omega
            · obtain rfl : j = 4 := by omega
              go_wp2_with fail
              go_roundw
              case rel => exact ⟨k + 1, s2, by omega, by go_num, hide (Hn2.out.trans Hs2.out), hk2, hide (Hok2.out.mono (by omega) (by omega))⟩
              case measure => simp [intOf]; omega
      · obtain rfl : k = q.n := by omega
        go_wp2_with fail
        go_meet
        exact ⟨st, _, Hst, hks, Hok⟩
  case rest =>
    obtain ⟨wa, rfl⟩ : ∃ wx : World, wx = wc := ⟨_, rfl⟩
    obtain ⟨sf, v3, Hsf, hks, Hok⟩ := hcut
    have HPs : Hid (P = (sf.n, (Ps.mk sf.pa sf.pb).srt sf.n)) := hide (HP.out.trans (prs_some Hsf.out))
    have hP0 : Hid (PsOk (Ps.mk sf.pa sf.pb) sf.n q.n) := hide Hok.out.pa
    have hnn := Hok.out.cn
    have hrp := hks.rp
    have hbl := hks.bl
    obtain ⟨A4, c4, rfl⟩ := own_form hrp
    clear hks Hok Hsf HP
    obtain ⟨m, Hm⟩ : ∃ m, Hid (m = sf.n) := ⟨_, rfl⟩
    obtain ⟨p0, Hp0⟩ : ∃ p, Hid (p = Ps.mk sf.pa sf.pb) := ⟨_, rfl⟩
    have hrp0 : wa.ownsRow w.heap.size 69 2 (.slice A4 m c4) m (rowF m 2 (prF p0.a p0.b)) := by rw [Hm.out, Hp0.out]; exact hrp
    rw [← Hm.out, ← Hp0.out] at HPs hP0
    rw [← Hm.out] at hnn
    rw [← Hm.out]
    clear hrp Hm Hp0
    go_wp2_with fail
    go_loopw [93] (fun a wr => ∃ i : Nat, i ≤ m ∧ a = .int .i64 i ∧ wr.ownsRow w.heap.size 69 2 (.slice A4 m c4) m (rowF m 2 (prF (p0.srt i).a (p0.srt i).b)) ∧ Below w.heap.size w wr) (fun a _ => m - (intOf a).toNat)
    case atStart => exact ⟨0, Nat.zero_le _, rfl, hrp0, hbl⟩
    case round =>
      obtain ⟨wo, rfl⟩ : ∃ wx : World, wx = wr := ⟨_, rfl⟩
      clear hrp0 hbl
      obtain ⟨i, hi, rfl, hrp, hbl⟩ := hrel
      by_cases hlt : i < m
      · have Hsi : Hid (p0.srt (i + 1) = Ps.ins i (p0.srt i)) := hide rfl
        generalize p0.srt i = pi at *
        have hbl0 := hbl
        go_upto_block 8 with fail
        go_wp2_with fail
        go_loopw [12] (fun a wr => ∃ (k : Nat) (p : Ps), k ≤ i ∧ a = .int .i64 k ∧ Hid (p0.srt (i + 1) = Ps.ins k p) ∧ wr.ownsRow w.heap.size 69 2 (.slice A4 m c4) m (rowF m 2 (prF p.a p.b)) ∧ Below w.heap.size w wr) (fun a _ => (intOf a).toNat)
        case atStart => exact ⟨i, pi, Nat.le_refl _, rfl, Hsi, hrp, hbl⟩
        case round =>
          obtain ⟨w2, rfl⟩ : ∃ wx : World, wx = wr := ⟨_, rfl⟩
          clear hrp hbl hbl0 Hsi
          obtain ⟨k, p, hk, rfl, Hsi, hrp, hbl⟩ := hrel
          by_cases hk0 : k = 0
          · subst hk0
            have Hs2 : Hid (p0.srt (i + 1) = p) := hide Hsi.out
            have i0 : ((0 : Nat) : Int) = 0 := rfl
            rw [i0]
            go_upto_region 28 with fail
            go_region
            go_wp2_with fail
            go_roundw
            case rel => exact ⟨i + 1, by omega, by go_num, by rw [Hs2.out]; exact hrp, below_drewN hbl 1⟩
            case measure => simp [intOf]; omega
          · obtain ⟨k1, Hk1⟩ : ∃ x, Hid (k = x + 1) := ⟨k - 1, hide (by omega)⟩
            have hkk := Hk1.out
            obtain ⟨g, rfl, hg⟩ := own_at hrp (by omega)
            have a0 : w2.cell? ⟨g, k1 * 2, none⟩ = some (.int .i64 (p.a k1 : Nat)) := own_cellF hrp (i := k1) (j := 0) (by omega) (by omega)
            have a1 : w2.cell? ⟨g, k1 * 2 + 1, none⟩ = some (.int .i64 (p.b k1 : Nat)) := own_cellF hrp (i := k1) (j := 1) (by omega) (by omega)
            have b0 : w2.cell? ⟨g, k * 2, none⟩ = some (.int .i64 (p.a k : Nat)) := own_cellF hrp (i := k) (j := 0) (by omega) (by omega)
            have b1 : w2.cell? ⟨g, k * 2 + 1, none⟩ = some (.int .i64 (p.b k : Nat)) := own_cellF hrp (i := k) (j := 1) (by omega) (by omega)
            have Hins : Hid (Ps.ins k p = if p.a k < p.a k1 then Ps.ins k1 (p.swap k1) else p) := hide (by rw [Hk1.out]; rfl)
            have i1 : (k : Int) - 1 = (k1 : Int) := by omega
            have i2 : k1 < m := by omega
            have i3 : k < m := by omega
            have i4 : 0 < k := by omega
            clear hkk
            have lim : k1 ≤ 400000 := by omega
            by_cases hlt2 : p.a k < p.a k1
            · have Hs2 : Hid (p0.srt (i + 1) = Ps.ins k1 (p.swap k1)) := hide (by rw [Hsi.out, Hins.out, if_pos hlt2])
              go_upto_region 28 with fail
              go_region
              go_upto_region 30 with fail
              have hset1 := own_storeF (own_storeF (own_storeF (own_storeF hrp k (j := 0) (by omega) (.int .i64 (p.a k1 : Nat))) k (j := 1) (by omega) (.int .i64 (p.b k1 : Nat))) k1 (j := 0) (by omega) (.int .i64 (p.a k : Nat))) k1 (j := 1) (by omega) (.int .i64 (p.b k : Nat))
              rw [rowF_congr (g := prF (p.swap k1).a (p.swap k1).b) (fun i j hi hj => by
                have e2 : j = 0 ∨ j = 1 := by omega
                unfold upd2 prF Ps.swap upd
                rw [Hk1.out]
                rcases e2 with rfl | rfl <;> by_cases h1 : i = k1 <;> by_cases h2 : i = k1 + 1 <;> simp [h1, h2] <;> omega)] at hset1
              have hbl9 := (((hbl.setCell (p := ⟨g, k * 2 + 0, none⟩) hg (.int .i64 (p.a k1 : Nat))).setCell (p := ⟨g, k * 2 + 1, none⟩) hg (.int .i64 (p.b k1 : Nat))).setCell (p := ⟨g, k1 * 2 + 0, none⟩) hg (.int .i64 (p.a k : Nat))).setCell (p := ⟨g, k1 * 2 + 1, none⟩) hg (.int .i64 (p.b k : Nat))
              have Hset := hide (And.intro (own_drewN hset1 2) (below_drewN hbl9 2))
              have qk : IntKind.i64.wrap (k1 : Int) = (k1 : Int) := IntWalk.i64_in _ (by omega)
              have i6 : 0 ≤ (k1 : Int) ∧ (k1 : Int) < (m : Int) := ⟨by omega, by omega⟩
              have i7 : (k1 : Int) < (m : Int) := by omega
              have f0 := World.ownsRow.frozenAt hrp (k * 2)
              have f1 := World.ownsRow.frozenAt hrp (k * 2 + 1)
              have f2 := World.ownsRow.frozenAt hrp (k1 * 2)
              have f3 := World.ownsRow.frozenAt hrp (k1 * 2 + 1)
              obtain ⟨va, hva⟩ : ∃ x : Int, x = ((p.a k1 : Nat) : Int) := ⟨_, rfl⟩
              obtain ⟨vb, hvb⟩ : ∃ x : Int, x = ((p.b k1 : Nat) : Int) := ⟨_, rfl⟩
              obtain ⟨xa, hxa⟩ : ∃ x : Int, x = ((p.a k : Nat) : Int) := ⟨_, rfl⟩
              obtain ⟨xb, hxb⟩ : ∃ x : Int, x = ((p.b k : Nat) : Int) := ⟨_, rfl⟩
              rw [← hva] at a0 Hset
              rw [← hvb] at a1 Hset
              rw [← hxa] at b0 Hset
              rw [← hxb] at b1 Hset
              clear hva hvb hxa hxb hset1 hbl9 hlt2 hrp hbl Hsi Hins
              refine wp_region_listed (S := fun l w' => (l.getD 15 true = false → w'.cell? ⟨g, k * 2, none⟩ = some (.int .i64 xa)) ∧ (l.getD 15 true = false → w'.cell? ⟨g, k * 2 + 1, none⟩ = some (.int .i64 xb)) ∧ (l.getD 17 true = false → w'.cell? ⟨g, k1 * 2, none⟩ = some (.int .i64 va)) ∧ (l.getD 17 true = false → w'.cell? ⟨g, k1 * 2 + 1, none⟩ = some (.int .i64 vb))) (by kernel_rfl) ?hSS (fun hHeld => ?_)
              case hSS => exact ⟨fun _ => b0, fun _ => b1, fun _ => a0, fun _ => a1⟩
              refine wpAnyL_take (i := 0) (v := ?vSn0) rfl (by kernel_rfl) (by kernel_rfl) (by kernel_rfl) (by kernel_rfl) (fun _ _ _ h => h) ?hsSn0 (Or.inl ⟨by rfl, ?hySn0⟩) (by assumption) (fun hHeld => ?_)
              case hsSn0 => (intro l w; (try dsimp only); simp only [Go.getD_set_ne true (show (0 : Nat) ≠ 15 by decide), Go.getD_set_ne true (show (0 : Nat) ≠ 17 by decide)])
              case hySn0 => (intro w hSw; obtain ⟨l, hl, hc, hSw⟩ := hSw; (try dsimp only at hSw); obtain ⟨cS0, cS1, cS2, cS3⟩ := hSw; clear hc hl; go_simp; try with_reducible rfl)
              try simp only [Act.put, List.getElem_toArray, List.getElem_cons_zero, List.getElem_cons_succ, List.setIfInBounds_toArray, List.set_cons_zero, List.set_cons_succ]
              refine wpAnyL_take (i := 1) (v := ?vSn1) rfl (by kernel_rfl) (by kernel_rfl) (by kernel_rfl) (by kernel_rfl) (fun _ _ _ h => h) ?hsSn1 (Or.inl ⟨by rfl, ?hySn1⟩) (by assumption) (fun hHeld => ?_)
              case hsSn1 => (intro l w; (try dsimp only); simp only [Go.getD_set_ne true (show (1 : Nat) ≠ 15 by decide), Go.getD_set_ne true (show (1 : Nat) ≠ 17 by decide)])
              case hySn1 => (intro w hSw; obtain ⟨l, hl, hc, hSw⟩ := hSw; (try dsimp only at hSw); obtain ⟨cS0, cS1, cS2, cS3⟩ := hSw; clear hc hl; go_simp; try with_reducible rfl)
              try simp only [Act.put, List.getElem_toArray, List.getElem_cons_zero, List.getElem_cons_succ, List.setIfInBounds_toArray, List.set_cons_zero, List.set_cons_succ]
              refine wpAnyL_take (i := 2) (v := ?vSn2) rfl (by kernel_rfl) (by kernel_rfl) (by kernel_rfl) (by kernel_rfl) (fun _ _ _ h => h) ?hsSn2 (Or.inl ⟨by rfl, ?hySn2⟩) (by assumption) (fun hHeld => ?_)
              case hsSn2 => (intro l w; (try dsimp only); simp only [Go.getD_set_ne true (show (2 : Nat) ≠ 15 by decide), Go.getD_set_ne true (show (2 : Nat) ≠ 17 by decide)])
              case hySn2 => (intro w hSw; obtain ⟨l, hl, hc, hSw⟩ := hSw; (try dsimp only at hSw); obtain ⟨cS0, cS1, cS2, cS3⟩ := hSw; clear hc hl; go_simp; try with_reducible rfl)
              try simp only [Act.put, List.getElem_toArray, List.getElem_cons_zero, List.getElem_cons_succ, List.setIfInBounds_toArray, List.set_cons_zero, List.set_cons_succ]
              refine wpAnyL_take (i := 3) (v := ?vSn3) rfl (by kernel_rfl) (by kernel_rfl) (by kernel_rfl) (by kernel_rfl) (fun _ _ _ h => h) ?hsSn3 (Or.inl ⟨by rfl, ?hySn3⟩) (by assumption) (fun hHeld => ?_)
              case hsSn3 => (intro l w; (try dsimp only); simp only [Go.getD_set_ne true (show (3 : Nat) ≠ 15 by decide), Go.getD_set_ne true (show (3 : Nat) ≠ 17 by decide)])
              case hySn3 => (intro w hSw; obtain ⟨l, hl, hc, hSw⟩ := hSw; (try dsimp only at hSw); obtain ⟨cS0, cS1, cS2, cS3⟩ := hSw; clear hc hl; go_simp; try with_reducible rfl)
              try simp only [Act.put, List.getElem_toArray, List.getElem_cons_zero, List.getElem_cons_succ, List.setIfInBounds_toArray, List.set_cons_zero, List.set_cons_succ]
              refine wpAnyL_take (i := 4) (v := ?vSn4) rfl (by kernel_rfl) (by kernel_rfl) (by kernel_rfl) (by kernel_rfl) (fun _ _ _ h => h) ?hsSn4 (Or.inl ⟨by rfl, ?hySn4⟩) (by assumption) (fun hHeld => ?_)
              case hsSn4 => (intro l w; (try dsimp only); simp only [Go.getD_set_ne true (show (4 : Nat) ≠ 15 by decide), Go.getD_set_ne true (show (4 : Nat) ≠ 17 by decide)])
              case hySn4 => (intro w hSw; obtain ⟨l, hl, hc, hSw⟩ := hSw; (try dsimp only at hSw); obtain ⟨cS0, cS1, cS2, cS3⟩ := hSw; clear hc hl; go_simp; try with_reducible rfl)
              try simp only [Act.put, List.getElem_toArray, List.getElem_cons_zero, List.getElem_cons_succ, List.setIfInBounds_toArray, List.set_cons_zero, List.set_cons_succ]
              refine wpAnyL_take (i := 5) (v := ?vSn5) rfl (by kernel_rfl) (by kernel_rfl) (by kernel_rfl) (by kernel_rfl) (fun _ _ _ h => h) ?hsSn5 (Or.inl ⟨by rfl, ?hySn5⟩) (by assumption) (fun hHeld => ?_)
              case hsSn5 => (intro l w; (try dsimp only); simp only [Go.getD_set_ne true (show (5 : Nat) ≠ 15 by decide), Go.getD_set_ne true (show (5 : Nat) ≠ 17 by decide)])
              case hySn5 => (intro w hSw; obtain ⟨l, hl, hc, hSw⟩ := hSw; (try dsimp only at hSw); obtain ⟨cS0, cS1, cS2, cS3⟩ := hSw; clear hc hl; go_simp; try with_reducible rfl)
              try simp only [Act.put, List.getElem_toArray, List.getElem_cons_zero, List.getElem_cons_succ, List.setIfInBounds_toArray, List.set_cons_zero, List.set_cons_succ]
              refine wpAnyL_take (i := 6) (v := ?vSn6) rfl (by kernel_rfl) (by kernel_rfl) (by kernel_rfl) (by kernel_rfl) (fun _ _ _ h => h) ?hsSn6 (Or.inl ⟨by rfl, ?hySn6⟩) (by assumption) (fun hHeld => ?_)
              case hsSn6 => (intro l w; (try dsimp only); simp only [Go.getD_set_ne true (show (6 : Nat) ≠ 15 by decide), Go.getD_set_ne true (show (6 : Nat) ≠ 17 by decide)])
              case hySn6 => (intro w hSw; obtain ⟨l, hl, hc, hSw⟩ := hSw; (try dsimp only at hSw); obtain ⟨cS0, cS1, cS2, cS3⟩ := hSw; clear hc hl; go_simp; try with_reducible rfl)
              try simp only [Act.put, List.getElem_toArray, List.getElem_cons_zero, List.getElem_cons_succ, List.setIfInBounds_toArray, List.set_cons_zero, List.set_cons_succ]
              refine wpAnyL_take (i := 7) (v := ?vSn7) rfl (by kernel_rfl) (by kernel_rfl) (by kernel_rfl) (by kernel_rfl) (fun _ _ _ h => h) ?hsSn7 (Or.inl ⟨by rfl, ?hySn7⟩) (by assumption) (fun hHeld => ?_)
              case hsSn7 => (intro l w; (try dsimp only); simp only [Go.getD_set_ne true (show (7 : Nat) ≠ 15 by decide), Go.getD_set_ne true (show (7 : Nat) ≠ 17 by decide)])
              case hySn7 => (intro w hSw; obtain ⟨l, hl, hc, hSw⟩ := hSw; (try dsimp only at hSw); obtain ⟨cS0, cS1, cS2, cS3⟩ := hSw; clear hc hl; go_simp; try with_reducible rfl)
              try simp only [Act.put, List.getElem_toArray, List.getElem_cons_zero, List.getElem_cons_succ, List.setIfInBounds_toArray, List.set_cons_zero, List.set_cons_succ]
              refine wpAnyL_take (i := 8) (v := ?vSn8) rfl (by kernel_rfl) (by kernel_rfl) (by kernel_rfl) (by kernel_rfl) (fun _ _ _ h => h) ?hsSn8 (Or.inl ⟨by rfl, ?hySn8⟩) (by assumption) (fun hHeld => ?_)
              case hsSn8 => (intro l w; (try dsimp only); simp only [Go.getD_set_ne true (show (8 : Nat) ≠ 15 by decide), Go.getD_set_ne true (show (8 : Nat) ≠ 17 by decide)])
              case hySn8 => (intro w hSw; obtain ⟨l, hl, hc, hSw⟩ := hSw; (try dsimp only at hSw); obtain ⟨cS0, cS1, cS2, cS3⟩ := hSw; clear hc hl; go_simp; try with_reducible rfl)
              try simp only [Act.put, List.getElem_toArray, List.getElem_cons_zero, List.getElem_cons_succ, List.setIfInBounds_toArray, List.set_cons_zero, List.set_cons_succ]
              refine wpAnyL_take (i := 9) (v := ?vSn9) rfl (by kernel_rfl) (by kernel_rfl) (by kernel_rfl) (by kernel_rfl) (fun _ _ _ h => h) ?hsSn9 (Or.inl ⟨by rfl, ?hySn9⟩) (by assumption) (fun hHeld => ?_)
              case hsSn9 => (intro l w; (try dsimp only); simp only [Go.getD_set_ne true (show (9 : Nat) ≠ 15 by decide), Go.getD_set_ne true (show (9 : Nat) ≠ 17 by decide)])
              case hySn9 => (intro w hSw; obtain ⟨l, hl, hc, hSw⟩ := hSw; (try dsimp only at hSw); obtain ⟨cS0, cS1, cS2, cS3⟩ := hSw; replace cS2 := cS2 (hc.waits 24 (by decide +kernel) hl); replace cS3 := cS3 (hc.waits 24 (by decide +kernel) hl); clear hc hl; go_simp; try with_reducible rfl)
              try simp only [Act.put, List.getElem_toArray, List.getElem_cons_zero, List.getElem_cons_succ, List.setIfInBounds_toArray, List.set_cons_zero, List.set_cons_succ]
              refine wpAnyL_take (i := 10) (v := ?vSn10) rfl (by kernel_rfl) (by kernel_rfl) (by kernel_rfl) (by kernel_rfl) (fun _ _ _ h => h) ?hsSn10 (Or.inl ⟨by rfl, ?hySn10⟩) (by assumption) (fun hHeld => ?_)
              case hsSn10 => (intro l w; (try dsimp only); simp only [Go.getD_set_ne true (show (10 : Nat) ≠ 15 by decide), Go.getD_set_ne true (show (10 : Nat) ≠ 17 by decide)])
              case hySn10 => (intro w hSw; obtain ⟨l, hl, hc, hSw⟩ := hSw; (try dsimp only at hSw); obtain ⟨cS0, cS1, cS2, cS3⟩ := hSw; clear hc hl; go_simp; try with_reducible rfl)
              try simp only [Act.put, List.getElem_toArray, List.getElem_cons_zero, List.getElem_cons_succ, List.setIfInBounds_toArray, List.set_cons_zero, List.set_cons_succ]
              refine wpAnyL_take (i := 11) (v := ?vSn11) rfl (by kernel_rfl) (by kernel_rfl) (by kernel_rfl) (by kernel_rfl) (fun _ _ _ h => h) ?hsSn11 (Or.inl ⟨by rfl, ?hySn11⟩) (by assumption) (fun hHeld => ?_)
              case hsSn11 => (intro l w; (try dsimp only); simp only [Go.getD_set_ne true (show (11 : Nat) ≠ 15 by decide), Go.getD_set_ne true (show (11 : Nat) ≠ 17 by decide)])
              case hySn11 => (intro w hSw; obtain ⟨l, hl, hc, hSw⟩ := hSw; (try dsimp only at hSw); obtain ⟨cS0, cS1, cS2, cS3⟩ := hSw; clear hc hl; go_simp; try with_reducible rfl)
              try simp only [Act.put, List.getElem_toArray, List.getElem_cons_zero, List.getElem_cons_succ, List.setIfInBounds_toArray, List.set_cons_zero, List.set_cons_succ]
              refine wpAnyL_take (i := 12) (v := ?vSn12) rfl (by kernel_rfl) (by kernel_rfl) (by kernel_rfl) (by kernel_rfl) (fun _ _ _ h => h) ?hsSn12 (Or.inl ⟨by rfl, ?hySn12⟩) (by assumption) (fun hHeld => ?_)
              case hsSn12 => (intro l w; (try dsimp only); simp only [Go.getD_set_ne true (show (12 : Nat) ≠ 15 by decide), Go.getD_set_ne true (show (12 : Nat) ≠ 17 by decide)])
              case hySn12 => (intro w hSw; obtain ⟨l, hl, hc, hSw⟩ := hSw; (try dsimp only at hSw); obtain ⟨cS0, cS1, cS2, cS3⟩ := hSw; clear hc hl; go_simp; try with_reducible rfl)
              try simp only [Act.put, List.getElem_toArray, List.getElem_cons_zero, List.getElem_cons_succ, List.setIfInBounds_toArray, List.set_cons_zero, List.set_cons_succ]
              refine wpAnyL_take (i := 13) (v := ?vSn13) rfl (by kernel_rfl) (by kernel_rfl) (by kernel_rfl) (by kernel_rfl) (fun _ _ _ h => h) ?hsSn13 (Or.inl ⟨by rfl, ?hySn13⟩) (by assumption) (fun hHeld => ?_)
              case hsSn13 => (intro l w; (try dsimp only); simp only [Go.getD_set_ne true (show (13 : Nat) ≠ 15 by decide), Go.getD_set_ne true (show (13 : Nat) ≠ 17 by decide)])
              case hySn13 => (intro w hSw; obtain ⟨l, hl, hc, hSw⟩ := hSw; (try dsimp only at hSw); obtain ⟨cS0, cS1, cS2, cS3⟩ := hSw; replace cS0 := cS0 (hc.waits 24 (by decide +kernel) hl); replace cS1 := cS1 (hc.waits 24 (by decide +kernel) hl); clear hc hl; go_simp; try with_reducible rfl)
              try simp only [Act.put, List.getElem_toArray, List.getElem_cons_zero, List.getElem_cons_succ, List.setIfInBounds_toArray, List.set_cons_zero, List.set_cons_succ]
              refine wpAnyL_take (i := 14) (v := ?vSn14) rfl (by kernel_rfl) (by kernel_rfl) (by kernel_rfl) (by kernel_rfl) (fun _ _ _ h => h) ?hsSn14 (Or.inl ⟨by rfl, ?hySn14⟩) (by assumption) (fun hHeld => ?_)
              case hsSn14 => (intro l w; (try dsimp only); simp only [Go.getD_set_ne true (show (14 : Nat) ≠ 15 by decide), Go.getD_set_ne true (show (14 : Nat) ≠ 17 by decide)])
              case hySn14 => (intro w hSw; obtain ⟨l, hl, hc, hSw⟩ := hSw; (try dsimp only at hSw); obtain ⟨cS0, cS1, cS2, cS3⟩ := hSw; clear hc hl; go_simp; try with_reducible rfl)
              try simp only [Act.put, List.getElem_toArray, List.getElem_cons_zero, List.getElem_cons_succ, List.setIfInBounds_toArray, List.set_cons_zero, List.set_cons_succ]
              refine wpAnyL_ready (rs := [15]) (by kernel_rfl) (by simp) (AllReadyL.cons rfl (fun K hK => ?_) AllReadyL.nil)
              go_simp
              refine hK.out _ _ ?hkSn15 (fun hHeld => ?_)
              case hkSn15 => exact ⟨fun h => absurd h (by first | decide | kernel_rfl), fun h => absurd h (by first | decide | kernel_rfl), fun _ => cell_other (cell_other (hHeld.2.2.1 (by first | decide | kernel_rfl)) (by omega)) (by omega), fun _ => cell_other (cell_other (hHeld.2.2.2 (by first | decide | kernel_rfl)) (by omega)) (by omega)⟩
              clear hK K
              try simp only [Act.put, List.getElem_toArray, List.getElem_cons_zero, List.getElem_cons_succ, List.setIfInBounds_toArray, List.set_cons_zero, List.set_cons_succ]
              refine wpAnyL_take (i := 16) (v := ?vSn16) rfl (by kernel_rfl) (by kernel_rfl) (by kernel_rfl) (by kernel_rfl) (fun _ _ _ h => h) ?hsSn16 (Or.inl ⟨by rfl, ?hySn16⟩) (by assumption) (fun hHeld => ?_)
              case hsSn16 => (intro l w; (try dsimp only); simp only [Go.getD_set_ne true (show (16 : Nat) ≠ 15 by decide), Go.getD_set_ne true (show (16 : Nat) ≠ 17 by decide)])
              case hySn16 => (intro w hSw; obtain ⟨l, hl, hc, hSw⟩ := hSw; (try dsimp only at hSw); obtain ⟨cS0, cS1, cS2, cS3⟩ := hSw; clear hc hl; go_simp; try with_reducible rfl)
              try simp only [Act.put, List.getElem_toArray, List.getElem_cons_zero, List.getElem_cons_succ, List.setIfInBounds_toArray, List.set_cons_zero, List.set_cons_succ]
              refine wpAnyL_ready (rs := [17]) (by kernel_rfl) (by simp) (AllReadyL.cons rfl (fun K hK => ?_) AllReadyL.nil)
              go_simp
              refine hK.out _ _ ?hkSn17 (fun hHeld => ?_)
              case hkSn17 => exact ⟨fun h => absurd h (by first | decide | kernel_rfl), fun h => absurd h (by first | decide | kernel_rfl), fun h => absurd h (by first | decide | kernel_rfl), fun h => absurd h (by first | decide | kernel_rfl)⟩
              clear hK K
              try simp only [Act.put, List.getElem_toArray, List.getElem_cons_zero, List.getElem_cons_succ, List.setIfInBounds_toArray, List.set_cons_zero, List.set_cons_succ]
              refine wpAnyL_done (by kernel_rfl) ?_ _
              go_wp2_with fail
              go_roundw
              case rel => exact ⟨k1, p.swap k1, by have := Hk1.out; omega, by go_num, Hs2, Hset.out.1, Hset.out.2⟩
              case measure => (have := Hk1.out; simp [intOf]; omega)
            · have Hs2 : Hid (p0.srt (i + 1) = p) := hide (by rw [Hsi.out, Hins.out, if_neg hlt2])
              clear Hsi Hins
              go_upto_region 28 with fail
              go_region
              go_wp2_with fail
              go_roundw
              case rel => exact ⟨i + 1, by omega, by go_num, by rw [Hs2.out]; exact hrp, below_drewN hbl 1⟩
              case measure => simp [intOf]; omega
      · obtain rfl : i = m := by omega
        go_wp2_with fail
        go_ret
        rw [HPs.out]
        exact ⟨A4, c4, rfl, hrp, hP0.out.srt i (Nat.le_refl _), hbl⟩
end
end Go.Proofs.YtdikfldogmbeaaaDoor.Bd
