/- The contracts of bidi.Base and bidi.Levels. Printed by bdlevgen.py. -/
import Derived.Test.YtdikfldogmbeaaaDoorBdLevPlain
import Derived.Test.YtdikfldogmbeaaaDoorBdSeqs
import Derived.Test.YtdikfldogmbeaaaDoorBdExplicit
import Derived.Test.YtdikfldogmbeaaaDoorBdBrs
import Derived.Test.YtdikfldogmbeaaaDoorBdWeak
import Derived.Test.YtdikfldogmbeaaaDoorBdImplicit
import Derived.Test.YtdikfldogmbeaaaDoorBdBlanks
import Derived.Test.YtdikfldogmbeaaaDoorMakesK
namespace Go.Proofs.YtdikfldogmbeaaaDoor.Bd
open Go.RowKit Go.Frm

theorem chk_len {zs : List Int} (h : chk zs = 0) : zs.length ≤ 100000 := by
  unfold chk at h
  split at h
  · cases h
  · omega
theorem baseOf_01 {zs : List Int} {dir : Int} (hd : -1 ≤ dir ∧ dir ≤ 1) : 0 ≤ baseOf zs dir ∧ baseOf zs dir ≤ 1 := by
  unfold baseOf
  split
  · rcases firstR_01 (clsX zs) false zs.length 0 0 with h | h <;> rw [h] <;> decide
  · omega
set_option maxRecDepth 100000 in
set_option maxHeartbeats 2000000 in
theorem base_ok (A : Option Addr) (cp : Nat) (zs : List Int) (dir : Int) (w : World) (ht : TabC w) (hr : RdI w A zs) (hc : chk zs = 0) (hd : -1 ≤ dir ∧ dir ≤ 1) :
    Calls Tryd.prog 17 #[.slice A zs.length cp, .int .i64 dir] w fun e w' => e = .returned (.tuple #[.int .i64 (baseOf zs dir), .int .i64 0]) ∧ Below w.heap.size w w' := by
  have hn := chk_len hc
  have Hck := hide (check_ok A cp zs w hr (by omega))
  rw [hc] at Hck
  have Hcl := hide (classes_ok A cp zs w ht hr hn)
  have Hbs := hide (show baseOf zs dir = if dir = -1 then firstR (clsX zs) false zs.length 0 0 else dir from rfl)
  clear ht hr hc
  by_cases h1 : dir = -1
  · subst h1
    have Hb2 : Hid (baseOf zs (-1) = firstR (clsX zs) false zs.length 0 0) := hide Hbs.out
    go_enter Tryd.func17, Tryd.ntmps17
    go_wp2_with fail
    refine Hck.out.mono ?_
    rintro e9 w9 ⟨rfl, rfl⟩
    go_wp2_with fail
    refine Hcl.out.mono ?_
    rintro e9 w1 ⟨g, rfl, hg, hb, hbl⟩
    go_wp2_with fail
    refine (first_all (some ⟨g, 0, none⟩) zs.length (clsX zs) 0 false w1 hb.rd (Nat.zero_le _) hn).mono ?_
    rintro e9 w9 ⟨rfl, rfl⟩
    go_wp2_with fail
    go_ret2
    exact ⟨by rw [Hb2.out]; rfl, hbl⟩
  · have Hb2 : Hid (baseOf zs dir = dir) := hide (by rw [Hbs.out, if_neg h1])
    have h2 : ¬ dir < -1 := by omega
    have h3 : ¬ 1 < dir := by omega
    have h4 : (dir == -1) = false := by simpa using h1
    have h5 : (dir != -1) = true := by simpa using h1
    go_enter Tryd.func17, Tryd.ntmps17
    go_wp2_with fail
    refine Hck.out.mono ?_
    rintro e9 w9 ⟨rfl, rfl⟩
    go_wp2_with fail
    go_ret2
    exact ⟨by rw [Hb2.out]; rfl, Below.refl _ _⟩

theorem tab_self (zs : List Int) : tab zs.length (ix zs) = zs := by
  apply List.ext_getElem
  · simp [tab]
  · intro i h1 h2
    simp [tab, ix, h2]
theorem tailL_bd (O : Nat → Bool) (L : Nat → Int) (base : Int) : ∀ i j, i ≤ j → tailL O L base i j = L j
  | 0, _, _ => rfl
  | i + 1, j, h => by
    unfold tailL
    split
    · rw [upd_other _ _ (by omega)]
      exact tailL_bd O L base i j (by omega)
    · exact tailL_bd O L base i j (by omega)
theorem map_tabV (ks : List Nat) (f : Nat → Value) : ks.map f = tabV ks.length fun j => f (ks.getD j 0) := by
  apply List.ext_getElem
  · simp [tabV]
  · intro i h1 h2
    simp at h1
    simp [tabV, h1]
theorem cl_bd (l : LvP) (hn : l.n ≤ 100000) (hb : 0 ≤ l.base ∧ l.base ≤ 1) : ∀ j, j ≤ l.ks.length → ∀ i, 0 ≤ (l.cl j).2 i ∧ (l.cl j).2 i ≤ 125 + 200000 * j
  | 0, _ => fun i => by
    have h := ex_L l.W l.n hb l.n
    show 0 ≤ l.e.L i ∧ l.e.L i ≤ _
    rcases Nat.lt_or_ge i l.n with h1 | h1
    · have := h.1 i h1
      show 0 ≤ (ex l.W l.n l.base l.n).L i ∧ (ex l.W l.n l.base l.n).L i ≤ _
      omega
    · have := h.2 i h1
      show 0 ≤ (ex l.W l.n l.base l.n).L i ∧ (ex l.W l.n l.base l.n).L i ≤ _
      omega
  | j + 1, hj => fun i => by
    have h := cl_bd l hn hb j (by omega) i
    rw [l.cl_succ (by omega)]
    have h1 := lev_bd (l.Sf (l.ks[j])) ((l.Sf (l.ks[j])).cls (tbV brTb) l.X (l.cl j).1) (l.cl j).2 i (l.Sf (l.ks[j])).n
    have h2 := (l.at_ (l.ks_lt (List.getElem_mem (show j < l.ks.length by omega)))).1.cnt
    rw [← l.Sfn] at h2
    show 0 ≤ (l.Sf (l.ks[j])).lev _ (l.cl j).2 (l.Sf (l.ks[j])).n i ∧ (l.Sf (l.ks[j])).lev _ (l.cl j).2 (l.Sf (l.ks[j])).n i ≤ _
    omega

set_option maxRecDepth 100000 in
set_option maxHeartbeats 8000000 in
theorem levels_ok (A : Option Addr) (cp : Nat) (zs : List Int) (dir : Int) (w : World) (ht : TabC w) (hB : BrC w) (hr : RdI w A zs) (hc : chk zs = 0) (hd : -1 ≤ dir ∧ dir ≤ 1) :
    Calls Tryd.prog 6 #[.slice A zs.length cp, .int .i64 dir] w fun e w' => ∃ gl, e = .returned (.tuple #[.slice (some ⟨gl, 0, none⟩) zs.length zs.length, .int .i64 (baseOf zs dir), .int .i64 0]) ∧
      w.heap.size ≤ gl ∧ BI w' gl zs.length (lvP zs (baseOf zs dir)).lev ∧ Below w.heap.size w w' := by
  have hn := chk_len hc
  have hb01 := baseOf_01 (zs := zs) hd
  have Hbase := hide (base_ok A cp zs dir w ht hr hc hd)
  generalize baseOf zs dir = base at *
  have Ht := hide ht
  have Hr := hide hr
  have HB := hide hB
  clear hc hd ht hr hB
  obtain ⟨l, Hl⟩ : ∃ l, Hid (l = lvP zs base) := ⟨_, rfl⟩
  rw [← Hl.out]
  have hln : l.n = zs.length := by rw [Hl.out]; rfl
  have hlW : l.W = clsX zs := by rw [Hl.out]; rfl
  have hlX : l.X = ix zs := by rw [Hl.out]; rfl
  have hlb : l.base = base := by rw [Hl.out]; rfl
  have Hfin := hide (show l.lev = blanks l.W l.base l.n true (tailL l.e.O l.raw l.base l.n) from rfl)
  rw [hln, hlb, hlW] at Hfin
  generalize hn0 : zs.length = n at *
  have Hn0 := hide hn0
  have He : Hid (ex (clsX zs) n base n = l.e) := hide (by unfold LvP.e; rw [hlW, hln, hlb])
  have HM : Hid ((pr (clsX zs) n).M = l.M) := hide (by unfold LvP.M; rw [hlW, hln])
  have Hrn : Hid (rn l.e.O l.e.L n = l.r) := hide (by unfold LvP.r; rw [hln])
  have HSf : Hid (sqFull l.M l.r (clsX zs) l.e.L l.e.O base n = l.Sf) := hide (by unfold LvP.Sf; rw [hlW, hln, hlb])
  have Hmok : Hid (MOk l.M n) := hide (by rw [← hln]; exact l.mok)
  have HeL : Hid (∀ i, i < n → base ≤ l.e.L i ∧ l.e.L i ≤ 125) := hide (by unfold LvP.e; rw [hlW, hln, hlb]; exact (ex_L (clsX zs) n hb01 n).1)
  have Hcb : Hid (∀ j, j ≤ l.ks.length → ∀ i, 0 ≤ (l.cl j).2 i ∧ (l.cl j).2 i ≤ 125 + 200000 * j) := hide (cl_bd l (by rw [hln]; exact hn) (by rw [hlb]; exact hb01))
  have Hat : Hid (∀ k, k ∈ l.ks → AtOk ⟨(l.Sf k).A, (l.Sf k).n⟩ n ∧ 0 < (l.Sf k).n ∧ (l.Sf k).W = clsX zs ∧ 0 ≤ (l.Sf k).lv ∧ (l.Sf k).lv ≤ 125) := hide (by
    intro k hk
    have h1 := l.at_ (l.ks_lt hk)
    have h2 := l.rok
    have h3 := h2.lt k 0 (l.ks_lt hk) (h2.len k (l.ks_lt hk)).1
    rw [hln] at h1 h3
    have h4 := (ex_L l.W l.n (base := l.base) (by rw [hlb]; exact hb01) l.n).1 (l.r.R k 0) (by rw [hln]; exact h3)
    have h5 : (l.Sf k).lv = l.e.L (l.r.R k 0) := rfl
    have h6 : (l.Sf k).W = l.W := rfl
    have h7 : l.e.L (l.r.R k 0) = (ex l.W l.n l.base l.n).L (l.r.R k 0) := rfl
    refine ⟨h1.1, h1.2, by rw [h6, hlW], ?_, ?_⟩
    · rw [h5, h7]; omega
    · rw [h5, h7]; omega)
  have Hkn : Hid (l.ks.length ≤ n) := hide (by
    have h1 : l.ks.length ≤ l.r.m := Nat.le_trans (List.length_filter_le _ _) (by simp)
    have h2 := l.rok.mi
    rw [hln] at h2
    omega)
  have HW0 := hide hlW
  have HX0 := hide hlX
  have Hln := hide hln
  have Hlb := hide hlb
  clear hn0 hlW hlX hln hlb
  have hmi := make_ints n hn n rfl
  have hmb := make_bools n hn n rfl
  go_enter Tryd.func6, Tryd.ntmps6
  go_wp2_with fail
  refine Hbase.out.mono ?_
  rintro e9 w1 ⟨rfl, hbl1⟩
  clear Hbase
  go_upto_region 4 with fail
  go_cut [9] (fun v wc => ∃ G gc gl go, v = .pointer (some ⟨G, 0, none⟩) ∧ Blk wc G 44 (paC A cp n gc gl base go (.slice none 0 0)) ∧ BI wc gc n (clsX zs) ∧ BI wc gl n (fun _ => 0) ∧ BB wc go n (fun _ => false) ∧ gc ≠ gl ∧ w.heap.size ≤ G ∧ w.heap.size ≤ gc ∧ w.heap.size ≤ gl ∧ w.heap.size ≤ go ∧ Below w.heap.size w wc)
  case first => as_aux_lemma =>
    refine wp_region_sink (S := fun w' : World => Below w1.heap.size w1 w') 12 (by kernel_rfl) (by kernel_rfl) (by kernel_rfl) (by kernel_rfl) ?hSL (fun hHeld => ?_)
    case hSL => exact below_drewN (Below.refl _ w1) 1
    simp only [List.take_succ_cons, List.take_zero]
    refine wpAnyH_take (i := 0) (v := ?vL0) rfl (by kernel_rfl) (by kernel_rfl) (by kernel_rfl) (fun _ _ _ h => h) (Or.inl ⟨by rfl, ?hyL0⟩) (by assumption) ?_
    case hyL0 => (intro w hSw; (try dsimp only at hSw); go_simp; try with_reducible rfl)
    try simp only [Act.put, List.getElem_toArray, List.getElem_cons_zero, List.getElem_cons_succ, List.setIfInBounds_toArray, List.set_cons_zero, List.set_cons_succ]
    refine wpAnyH_take (i := 1) (v := ?vL1) rfl (by kernel_rfl) (by kernel_rfl) (by kernel_rfl) (fun _ _ _ h => h) (Or.inl ⟨by rfl, ?hyL1⟩) (by assumption) ?_
    case hyL1 => (intro w hSw; (try dsimp only at hSw); go_simp; try with_reducible rfl)
    try simp only [Act.put, List.getElem_toArray, List.getElem_cons_zero, List.getElem_cons_succ, List.setIfInBounds_toArray, List.set_cons_zero, List.set_cons_succ]
    refine wpAnyH_take (i := 3) (v := ?vL3) rfl (by kernel_rfl) (by kernel_rfl) (by kernel_rfl) (fun _ _ _ h => h) (Or.inl ⟨by rfl, ?hyL3⟩) (by assumption) ?_
    case hyL3 => (intro w hSw; (try dsimp only at hSw); go_simp; try with_reducible rfl)
    try simp only [Act.put, List.getElem_toArray, List.getElem_cons_zero, List.getElem_cons_succ, List.setIfInBounds_toArray, List.set_cons_zero, List.set_cons_succ]
    refine wpAnyH_take (i := 4) (v := ?vL4) rfl (by kernel_rfl) (by kernel_rfl) (by kernel_rfl) (fun _ _ _ h => h) (Or.inl ⟨by rfl, ?hyL4⟩) (by assumption) ?_
    case hyL4 => (intro w hSw; (try dsimp only at hSw); go_simp; try with_reducible rfl)
    try simp only [Act.put, List.getElem_toArray, List.getElem_cons_zero, List.getElem_cons_succ, List.setIfInBounds_toArray, List.set_cons_zero, List.set_cons_succ]
    refine wpAnyH_take (i := 6) (v := ?vL6) rfl (by kernel_rfl) (by kernel_rfl) (by kernel_rfl) (fun _ _ _ h => h) (Or.inl ⟨by rfl, ?hyL6⟩) (by assumption) ?_
    case hyL6 => (intro w hSw; (try dsimp only at hSw); go_simp; try with_reducible rfl)
    try simp only [Act.put, List.getElem_toArray, List.getElem_cons_zero, List.getElem_cons_succ, List.setIfInBounds_toArray, List.set_cons_zero, List.set_cons_succ]
    refine wpAnyH_take (i := 7) (v := ?vL7) rfl (by kernel_rfl) (by kernel_rfl) (by kernel_rfl) (fun _ _ _ h => h) (Or.inl ⟨by rfl, ?hyL7⟩) (by assumption) ?_
    case hyL7 => (intro w hSw; (try dsimp only at hSw); go_simp; try with_reducible rfl)
    try simp only [Act.put, List.getElem_toArray, List.getElem_cons_zero, List.getElem_cons_succ, List.setIfInBounds_toArray, List.set_cons_zero, List.set_cons_succ]
    refine wpAnyH_take (i := 8) (v := ?vL8) rfl (by kernel_rfl) (by kernel_rfl) (by kernel_rfl) (fun _ _ _ h => h) (Or.inl ⟨by rfl, ?hyL8⟩) (by assumption) ?_
    case hyL8 => (intro w hSw; (try dsimp only at hSw); go_simp; try with_reducible rfl)
    try simp only [Act.put, List.getElem_toArray, List.getElem_cons_zero, List.getElem_cons_succ, List.setIfInBounds_toArray, List.set_cons_zero, List.set_cons_succ]
    clear hHeld
    refine MkK.makes_run (w0 := w1.drew) (k := 3) (mk := fun i => if i = 0 then 2 else if i = 1 then 5 else 9) (d := fun i => if i = 0 then 26 else if i = 1 then 29 else 33) (V := fun _ g => .slice (some ⟨g, 0, none⟩) n n) (obj := fun i => if i = 0 then .cells (tabV n fun i => .int .i64 (clsX zs i)).toArray 3 else if i = 1 then .cells (tabV n fun _ => .int .i64 0).toArray 3 else .cells (tabV n fun _ => .bool false).toArray 4) _ (listedK := #[true, true, true, true, true, true, true, true, true, true, false, false]) (fuelK := 2) ⟨by kernel_rfl, fun i hi => ?hMu, fun i j hi hj hij => ?hMi, fun i hi => ?hMd, fun i hi => ?hMo⟩ (Nat.le_of_ble_eq_true (by kernel_rfl)) rfl (by kernel_rfl) (by kernel_rfl) ?hMS ?hMe
    case hMu => rcases (show i = 0 ∨ i = 1 ∨ i = 2 by omega) with rfl | rfl | rfl <;> rfl
    case hMi => rcases (show i = 0 ∨ i = 1 ∨ i = 2 by omega) with rfl | rfl | rfl <;> rcases (show j = 0 ∨ j = 1 ∨ j = 2 by omega) with rfl | rfl | rfl <;> first | exact absurd rfl hij | decide
    case hMd => rcases (show i = 0 ∨ i = 1 ∨ i = 2 by omega) with rfl | rfl | rfl <;> simp
    case hMo =>
      rcases (show i = 0 ∨ i = 1 ∨ i = 2 by omega) with rfl | rfl | rfl
      · refine ⟨_, rfl, rfl, rfl, by kernel_rfl, fun a' ha wx hbx K hK => ?_⟩
        have h25 : a'.tmps[25]? = some (.slice A n cp) := (ha 25 (by intro j hj; rcases (show j = 0 ∨ j = 1 ∨ j = 2 by omega) with rfl | rfl | rfl <;> decide)).trans (by simp)
        have hw : Below w.heap.size w wx := hbl1.trans ((below_drewN (Below.refl _ w1) 1).trans hbx |>.mono hbl1.size)
        have hcl := classes_ok A cp zs wx (Ht.out.below hw) (Hr.out.below hw) (by rw [Hn0.out]; exact hn)
        rw [Hn0.out] at hcl
        go_simp
        refine hcl.mono ?_
        rintro e9 w9 ⟨g, rfl, h1, h2, h3⟩
        exact hK g w9 h1 h2 h3
      · refine ⟨_, rfl, rfl, rfl, by kernel_rfl, fun a' ha wx hbx K hK => ?_⟩
        have h28 : a'.tmps[28]? = some (.int .i64 n) := (ha 28 (by intro j hj; rcases (show j = 0 ∨ j = 1 ∨ j = 2 by omega) with rfl | rfl | rfl <;> decide)).trans (by simp)
        go_simp
        exact hK wx.heap.size _ (Nat.le_refl _) (by
          have h := heap_alloc_new wx (.cells (madeCells #[.int .i64 0] n) 3)
          rw [made_tab] at h
          rw [made_tab]
          exact h) ((Below.refl _ _).alloc (Nat.le_refl _) _)
      · refine ⟨_, rfl, rfl, rfl, by kernel_rfl, fun a' ha wx hbx K hK => ?_⟩
        have h32 : a'.tmps[32]? = some (.int .i64 n) := (ha 32 (by intro j hj; rcases (show j = 0 ∨ j = 1 ∨ j = 2 by omega) with rfl | rfl | rfl <;> decide)).trans (by simp)
        go_simp
        exact hK wx.heap.size _ (Nat.le_refl _) (by
          have h := heap_alloc_new wx (.cells (madeCells #[.bool false] n) 4)
          rw [made_tab] at h
          rw [made_tab]
          exact h) ((Below.refl _ _).alloc (Nat.le_refl _) _)
    case hMS => exact fun w' hB => Below.trans (b := w1.drew) (below_drewN (Below.refl w1.heap.size w1) 1) hB
    case hMe =>
      intro g w9 hbx hap hB0
      have hB : Below w1.heap.size w1 w9 := Below.trans (b := w1.drew) (below_drewN (Below.refl w1.heap.size w1) 1) hB0
      obtain ⟨low2, k2⟩ := hbx 0 (by omega)
      replace low2 : w1.heap.size ≤ g 0 := low2
      replace k2 : BI w9 (g 0) n (clsX zs) := k2
      obtain ⟨low3, k3⟩ := hbx 1 (by omega)
      replace low3 : w1.heap.size ≤ g 1 := low3
      replace k3 : BI w9 (g 1) n (fun _ => 0) := k3
      obtain ⟨low4, k4⟩ := hbx 2 (by omega)
      replace low4 : w1.heap.size ≤ g 2 := low4
      replace k4 : BB w9 (g 2) n (fun _ => false) := k4
      have ap01 := hap 0 1 (by omega) (by omega) (by omega)
      clear hbx hap hB0
      simp only [MkK.putAll, if_true, if_neg (show ¬ (1 : Nat) = 0 by decide), if_neg (show ¬ (2 : Nat) = 0 by decide), if_neg (show ¬ (2 : Nat) = 1 by decide)]
      try simp only [Act.put, List.setIfInBounds_toArray, List.set_cons_zero, List.set_cons_succ]
      generalize g 0 = h2 at *
      generalize g 1 = h3 at *
      generalize g 2 = h4 at *
      refine wpAnyH_take (i := 10) (v := _) rfl (by kernel_rfl) (by kernel_rfl) (by kernel_rfl) (fun _ _ _ h => h) (Or.inl ⟨by rfl, fun w hSw => by go_simp; with_reducible rfl⟩) hB ?_
      try simp only [Act.put, List.getElem_toArray, List.getElem_cons_zero, List.getElem_cons_succ, List.setIfInBounds_toArray, List.set_cons_zero, List.set_cons_succ]
      refine wpAnyH_ready (rs := [11]) (by kernel_rfl) (by simp) (AllReadyH.cons rfl (fun K hK => ?_) AllReadyH.nil)
      go_simp
      have hBz := hB.alloc hB.size (.cells (paC A cp n h2 h3 base h4 (.slice none 0 0)) 44)
      have bm := Blk.new w9 44 (paC A cp n h2 h3 base h4 (.slice none 0 0))
      refine hK.out _ _ hBz (fun _ => ?_)
      clear hK K
      try simp only [List.setIfInBounds_toArray, List.set_cons_zero, List.set_cons_succ]
      refine wpAnyH_done (by kernel_rfl) ?_ _
      refine sink_run rfl rfl ?_
      go_simp
      go_wp2_with fail
      go_meet
      have hs1 := hbl1.size
      exact ⟨_, h2, h3, h4, rfl, bm, k2.blk.alloc _, k3.blk.alloc _, k4.blk.alloc _, ap01, by have := hB.size; omega, by omega, by omega, by omega, hbl1.trans (hBz.mono hs1)⟩
  case rest =>
    obtain ⟨w2, rfl⟩ : ∃ wx : World, wx = wc := ⟨_, rfl⟩
    obtain ⟨G, gc, gl, go, rfl, hp, hc, hl, ho, hne, lG, lc, ll, lo, hbl⟩ := hcut
    have hGl := hp.lt
    have hcl := hc.lt
    have hll := hl.lt
    have hol := ho.lt
    have hGc : G ≠ gc := blk_ne_type hp hc (by decide)
    have hGL : G ≠ gl := blk_ne_type hp hl (by decide)
    have hGo : G ≠ go := blk_ne_type hp ho (by decide)
    have hoc : go ≠ gc := blk_ne_type ho hc (by decide)
    have hol2 : go ≠ gl := blk_ne_type ho hl (by decide)
    have Hcl := hide (classes_ok A cp zs w2 (Ht.out.below hbl) (Hr.out.below hbl) (by rw [Hn0.out]; exact hn))
    rw [Hn0.out] at Hcl
    go_wp2_with fail
    refine Hcl.out.mono ?_
    rintro e9 w3 ⟨gw, rfl, hgw, hbw, hb3⟩
    have hp3 := hp.below hb3 hGl
    have hc3 : BI w3 gc n (clsX zs) := hc.blk.below hb3 hcl
    have hl3 : BI w3 gl n (fun _ => 0) := hl.blk.below hb3 hll
    have ho3 : BB w3 go n (fun _ => false) := ho.blk.below hb3 hol
    have hbl3 : Below w.heap.size w w3 := hbl.trans (hb3.mono hbl.size)
    have hs3 := hb3.size
    have hgwl := hbw.lt
    clear hp hc hl ho Hcl hb3
    have Hpr := hide (pairs_ok G A cp n gc gl base go (clsX zs) w3 hp3 hc3 hn)
    go_wp2_with fail
    refine Hpr.out.mono ?_
    rintro e9 w4 ⟨gm, rfl, hgm, hp4, hm4, hg4⟩
    rw [HM.out] at hm4
    have hc4 : BI w4 gc n (clsX zs) := hc3.chg hg4 (fun e => hGc e.symm)
    have hl4 : BI w4 gl n (fun _ => 0) := hl3.chg hg4 (fun e => hGL e.symm)
    have ho4 : BB w4 go n (fun _ => false) := ho3.chg hg4 (fun e => hGo e.symm)
    have hw4 : BI w4 gw n (clsX zs) := hbw.chg hg4 (fun e => by have : gw = G := e; omega)
    have hbl4 : Below w.heap.size w w4 := hbl3.trans (hg4.to_below hbl3.size (fun x hx => by have : x = G := hx; omega))
    have hs4 := hg4.size
    have hgml := hm4.lt
    clear hp3 hc3 hl3 ho3 hbw hg4 Hpr
    have Hex := hide (explicit_ok G A cp n gc gl base go (.slice (some ⟨gm, 0, none⟩) n n) (clsX zs) w4 hp4 hc4 hl4 ho4 hne hn hb01)
    rw [He.out] at Hex
    go_wp2_with fail
    refine Hex.out.mono ?_
    rintro e9 w5 ⟨rfl, hp5, hc5, hl5, ho5, hg5⟩
    have hm5 : BI w5 gm n l.M := hm4.chg hg5 (fun e => by rcases (show gm = gc ∨ gm = gl ∨ gm = go from e) with h | h | h <;> omega)
    have hw5 : BI w5 gw n (clsX zs) := hw4.chg hg5 (fun e => by rcases (show gw = gc ∨ gw = gl ∨ gw = go from e) with h | h | h <;> omega)
    have hbl5 : Below w.heap.size w w5 := hbl4.trans (hg5.to_below hbl4.size (fun x hx => by rcases (show x = gc ∨ x = gl ∨ x = go from hx) with h | h | h <;> omega))
    have hs5 := hg5.size
    clear hp4 hc4 hl4 ho4 hm4 hw4 hg5 Hex
    have Hsq := hide (sequences_ok G gw A cp n gc gl base go gm l.e.O l.e.C l.e.L l.M (clsX zs) w5 hp5 ho5 hl5 hm5 hc5 hw5.rd (by omega) hn Hmok.out (fun i hi => by have := HeL.out i hi; omega) hb01)
    rw [Hrn.out, HSf.out, show begs l.M l.r l.r.m = l.ks from rfl] at Hsq
    go_wp2_with fail
    refine Hsq.out.mono ?_
    rintro e9 w6 ⟨v, sB, ga, ca, rfl, hsm, hb6⟩
    have hbl6 : Below w.heap.size w w6 := hbl5.trans (hb6.mono hbl5.size)
    have hs6 := hb6.size
    have Hp6 := hide (hp5.below hb6 hp5.lt)
    have hc6 : BI w6 gc n l.e.C := hc5.blk.below hb6 hc5.lt
    have hl6 : BI w6 gl n l.e.L := hl5.blk.below hb6 hl5.lt
    have Ho6 : Hid (BB w6 go n l.e.O) := hide (ho5.blk.below hb6 ho5.lt)
    have Hw6 : Hid (BI w6 gw n (clsX zs)) := hide (hw5.blk.below hb6 hw5.lt)
    have Hx6 := hide (Hr.out.below hbl6)
    have Hb6 := hide (HB.out.below hbl6)
    have hsm6 := hsm
    obtain ⟨A6, c6, rfl⟩ := own_form hsm.row
    have Hrow := hide (show w6.ownsRow w5.heap.size 47 1 (.slice A6 l.ks.length c6) l.ks.length (tabV l.ks.length fun j => .pointer (some ⟨sB (l.ks.getD j 0), 0, none⟩)) by have h := hsm.row; rw [map_tabV] at h; exact h)
    have Hsm := hide hsm
    have hkn := Hkn.out
    have hcl0 : (l.cl 0) = (l.e.C, l.e.L) := rfl
    clear hp5 hc5 hl5 ho5 hm5 hw5 Hsq hsm hsm6 hb6
    go_wp2_with fail
    go_loopw [46] (fun a wr => ∃ j : Nat, j ≤ l.ks.length ∧ a = .int .i64 j ∧ BI wr gc n (l.cl j).1 ∧ BI wr gl n (l.cl j).2 ∧ Chg (Is3 gc gl gl) w6 wr) (fun a _ => l.ks.length - (intOf a).toNat)
    case atStart => exact ⟨0, Nat.zero_le _, rfl, hc6, hl6, Chg.refl _ _⟩
    case round =>
      obtain ⟨wo, rfl⟩ : ∃ wx : World, wx = wr := ⟨_, rfl⟩
      clear hc6 hl6 hcl0
      obtain ⟨j, hj, rfl, hcj, hlj, hgj⟩ := hrel
      by_cases hlt : j < l.ks.length
      · have hkm : l.ks.getD j 0 ∈ l.ks := by rw [List.getD_eq_getElem?_getD, List.getElem?_eq_getElem hlt]; exact List.getElem_mem hlt
        have Hst : Hid (l.cl (j + 1) = seqStep (tbV brTb) l.X l.Sf (l.cl j) (l.ks.getD j 0)) := hide (by
          rw [l.cl_succ hlt, List.getD_eq_getElem?_getD, List.getElem?_eq_getElem hlt]
          rfl)
        have hD : ∀ x, Is3 gc gl gl x → x < w5.heap.size := fun x hx => by rcases (show x = gc ∨ x = gl ∨ x = gl from hx) with h | h | h <;> omega
        have hrow := own_chg Hrow.out hgj hD
        obtain ⟨g, rfl, hg⟩ := own_at hrow (by omega)
        have cpt := own_cell hrow hlt
        have hsmj := Hsm.out.chg hgj hD
        obtain ⟨hsB, hblk⟩ := hsmj.blk _ hkm
        have hat := hsmj.at_ _ hkm
        obtain ⟨hAt, hpos, hqW, hlv0, hlv1⟩ := Hat.out _ hkm
        have hcbj := Hcb.out j (by omega)
        generalize l.ks.getD j 0 = k at *
        obtain ⟨q, Hq⟩ : ∃ q, Hid (q = l.Sf k) := ⟨_, rfl⟩
        have Hst2 : Hid (l.cl (j + 1) = (q.cls (tbV brTb) l.X (l.cl j).1, q.lev (q.cls (tbV brTb) l.X (l.cl j).1) (l.cl j).2 q.n)) := hide (by rw [Hst.out, Hq.out]; rfl)
        rw [← Hq.out] at hblk hat hAt hpos hqW hlv0 hlv1
        have hqn : q.n ≤ n := hAt.cnt
        have hga : w5.heap.size ≤ ga k := by
          obtain ⟨g2, e2, h2⟩ := own_at hat hpos
          injection e2 with e2
          injection e2 with e2
          omega
        have hblo : Below w.heap.size w wo := hbl6.trans (hgj.to_below hbl6.size (fun x hx => by rcases (show x = gc ∨ x = gl ∨ x = gl from hx) with h | h | h <;> omega))
        have HQ : QM wo (sB k) G (ga k) (ca k) gw q A cp n gc gl base go (.slice (some ⟨gm, 0, none⟩) n n) (l.cl j).1 := ⟨hblk, blk_chg Hp6.out hgj (fun e => by rcases (show G = gc ∨ G = gl ∨ G = gl from e) with h | h | h <;> omega), own_ints hat, by rw [hqW]; exact (Hw6.out.chg hgj (fun e => by rcases (show gw = gc ∨ gw = gl ∨ gw = gl from e) with h | h | h <;> omega)).rd, hcj, fun i hi => hAt.lt i hi, ⟨by omega, by omega⟩⟩
        generalize (l.cl j).1 = C at *
        generalize (l.cl j).2 = L at *
        have Hcbj := hide hcbj
        have HX : Hid (∀ wx, Below w.heap.size w wx → RdI wx A (tab n l.X)) := hide (fun wx h => by rw [HX0.out, ← Hn0.out, tab_self]; exact Hr.out.below h)
        have Hwk := hide (weak_ok HQ hn (by omega))
        clear hat hAt hcbj hrow hsmj Hst hblk hqW
        go_wp2_with fail
        refine Hwk.out.mono ?_
        rintro e9 w7 ⟨rfl, hc7, hg7⟩
        have HQ7 := HQ.to hc7 hg7
        have hg7' := hgj.trans (hg7.mono (D' := Is3 gc gl gl) (fun x hx => .inl hx))
        have hb7 : Below w.heap.size w w7 := hblo.trans (hg7.to_below hblo.size (fun x hx => by have : x = gc := hx; omega))
        have hl7 := hlj.chg hg7 (fun e => hne (show gl = gc from e).symm)
        have Hbr := hide (brackets_ok HQ7 (by omega) l.X (HX.out _ hb7) (HB.out.below hb7) ⟨hlv0, by omega⟩)
        clear HQ Hwk hcj hlj hg7 hblo hgj
        go_wp2_with fail
        refine Hbr.out.mono ?_
        rintro e9 w8 ⟨rfl, hc8, hg8⟩
        have HQ8 := HQ7.to hc8 hg8
        have hg8' := hg7'.trans (hg8.mono (D' := Is3 gc gl gl) (fun x hx => .inl hx))
        have hl8 := hl7.chg hg8 (fun e => hne (show gl = gc from e).symm)
        have Hne := hide (neutral_seq_ok HQ8 (by omega) ⟨hlv0, by omega⟩)
        clear HQ7 Hbr hl7 hg8 hg7' hc7
        go_wp2_with fail
        refine Hne.out.mono ?_
        rintro e9 w9 ⟨rfl, hc9, hg9⟩
        have HQ9 := HQ8.to hc9 hg9
        have hg9' := hg8'.trans (hg9.mono (D' := Is3 gc gl gl) (fun x hx => .inl hx))
        have hl9 := hl8.chg hg9 (fun e => hne (show gl = gc from e).symm)
        have Him := hide (implicit_ok HQ9 L hl9 (fun i hi => by have := Hcbj.out i; omega) (by omega) ⟨hlv0, by omega⟩ ⟨by omega, by omega, hne⟩)
        clear HQ8 Hne hl8 hg9 hg8' hc8
        go_wp2_with fail
        refine Him.out.mono ?_
        rintro e9 w10 ⟨rfl, hl10, hg10⟩
        have hc10 := hc9.chg hg10 (fun e => hne (show gc = gl from e))
        have hg10' := hg9'.trans (hg10.mono (D' := Is3 gc gl gl) (fun x hx => .inr (.inl hx)))
        go_wp2_with fail
        go_roundw
        case rel => exact ⟨j + 1, by omega, by go_num, by rw [Hst2.out]; exact hc10, by rw [Hst2.out]; exact hl10, hg10'⟩
        case measure => simp [intOf]; omega
      · obtain rfl : j = l.ks.length := by omega
        have hraw : (l.cl l.ks.length).2 = l.raw := by
          unfold LvP.cl LvP.raw
          rw [List.take_length]
        rw [hraw] at hlj
        have hD : ∀ x, Is3 gc gl gl x → x < w5.heap.size := fun x hx => by rcases (show x = gc ∨ x = gl ∨ x = gl from hx) with h | h | h <;> omega
        have hblo : Below w.heap.size w wo := hbl6.trans (hgj.to_below hbl6.size (fun x hx => by rcases (show x = gc ∨ x = gl ∨ x = gl from hx) with h | h | h <;> omega))
        have Hpo := hide (blk_chg Hp6.out hgj (fun e => by rcases (show G = gc ∨ G = gl ∨ G = gl from e) with h | h | h <;> omega))
        have Hwo := hide (Hw6.out.chg hgj (fun e => by rcases (show gw = gc ∨ gw = gl ∨ gw = gl from e) with h | h | h <;> omega))
        have Hoo := hide (Ho6.out.chg hgj (fun e => by rcases (show go = gc ∨ go = gl ∨ go = gl from e) with h | h | h <;> omega))
        obtain ⟨O, HO⟩ : ∃ x, Hid (x = l.e.O) := ⟨_, rfl⟩
        obtain ⟨R, HR⟩ : ∃ x, Hid (x = l.raw) := ⟨_, rfl⟩
        rw [← HO.out] at Hoo
        rw [← HR.out] at hlj
        rw [← HO.out, ← HR.out] at Hfin
        clear hgj hcj hraw
        go_wp2_with fail
        go_loopw [13, 62] (fun v a wr => ∃ i : Nat, i ≤ n ∧ a = .int .i64 i ∧ v = .int .i64 (if i = 0 then base else tailL O R base i (i - 1)) ∧ BI wr gl n (tailL O R base i) ∧ Chg (Is gl) wo wr) (fun _ a _ => n - (intOf a).toNat)
        case atStart => exact ⟨0, Nat.zero_le _, rfl, rfl, hlj, Chg.refl _ _⟩
        case round =>
          obtain ⟨wp, rfl⟩ : ∃ wx : World, wx = wr := ⟨_, rfl⟩
          clear hlj
          obtain ⟨i, hi, rfl, rfl, hli, hgi⟩ := hrel
          have hp9 := blk_chg Hpo.out hgi (fun e => hGL (show G = gl from e))
          have r2 : wp.cell? ⟨G, 2, none⟩ = some (.slice (some ⟨gl, 0, none⟩) n n) := hp9.cell 2
          have r4 : wp.cell? ⟨G, 4, none⟩ = some (.slice (some ⟨go, 0, none⟩) n n) := hp9.cell 4
          have hGp := hp9.lt
          by_cases hlt2 : i < n
          · have ho9 := Hoo.out.chg hgi (fun e => hol2 (show go = gl from e))
            have co := ho9.cell hlt2
            have cl := hli.cell hlt2
            have fl := hli.frozen i
            have Hts : Hid (tailL O R base (i + 1) = if O i = true then upd (tailL O R base i) i (if i = 0 then base else tailL O R base i (i - 1)) else tailL O R base i) := hide rfl
            generalize (if i = 0 then base else tailL O R base i (i - 1)) = last at *
            have Hset := hide (hli.set i last)
            generalize tailL O R base i = E at *
            have lim : i ≤ 100000 := by omega
            cases hO : O i with
            | true =>
              rw [hO] at co
              have Ht2 : Hid (tailL O R base (i + 1) = upd E i last) := hide (by rw [Hts.out, if_pos hO])
              go_wp2_with fail
              go_roundw
              case rel => exact ⟨i + 1, by omega, by go_num, by rw [if_neg (by omega), Ht2.out, Nat.add_sub_cancel, upd_same], by rw [Ht2.out]; exact Hset.out, hgi.setCell (p := ⟨gl, i, none⟩) (.inl (show Is gl gl from rfl)) _⟩
              case measure => simp [intOf]; omega
            | false =>
              rw [hO] at co
              have Ht2 : Hid (tailL O R base (i + 1) = E) := hide (by rw [Hts.out, if_neg (by rw [hO]; decide)])
              generalize hEi : E i = ei at *
              have HEi := hide hEi
              clear hEi
              go_wp2_with fail
              go_roundw
              case rel => exact ⟨i + 1, by omega, by go_num, by rw [if_neg (by omega), Ht2.out, Nat.add_sub_cancel, HEi.out], by rw [Ht2.out]; exact hli, hgi⟩
              case measure => simp [intOf]; omega
          · obtain rfl : i = n := by omega
            generalize (if i = 0 then base else tailL O R base i (i - 1)) = last at *
            have hgwi : gw ≠ gl := by omega
            have Hrb := hide (resetBlanks_ok gw 0 i i gl i (clsX zs) (tailL O R base i) base (fun w F => BI w gl i F) (rowLike_BI gl i) wp (Hwo.out.chg hgi (fun e => hgwi (show gw = gl from e))).rd hli hgwi hn)
            have hbp : Below w.heap.size w wp := hblo.trans (hgi.to_below hblo.size (fun x hx => by have : x = gl := hx; omega))
            go_wp2_with fail
            refine Hrb.out.mono ?_
            rintro e9 w11 ⟨rfl, hl11, hg11⟩
            have hp11 := blk_chg hp9 hg11 (fun e => hGL (show G = gl from e))
            have q2 : w11.cell? ⟨G, 2, none⟩ = some (.slice (some ⟨gl, 0, none⟩) i i) := hp11.cell 2
            have hG11 := hp11.lt
            have hb11 : Below w.heap.size w w11 := hbp.trans (hg11.to_below hbp.size (fun x hx => by have : x = gl := hx; omega))
            go_wp2_with fail
            go_ret3
            exact ⟨gl, rfl, ll, by rw [Hfin.out]; exact hl11, hb11⟩
end Go.Proofs.YtdikfldogmbeaaaDoor.Bd
