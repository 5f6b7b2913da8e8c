/- The contract of Break. -/
import Derived.Test.YtmjhmcjlbcadaaaLnGreedy
import Derived.Test.YtmjhmcjlbcadaaaLnBest
namespace Go.Proofs.Ytmjhmcjlbcadaaa.Ln
open Go.RowKit Go.Frm

theorem known_info : (Try.prog.info? 66).map (fun i => (i.zero, i.size, i.bytes)) = some (some (.slice none 0 0), 1, 24) := by kernel_rfl
theorem make_known (n : Nat) (hn : n ≤ 1000) (wx : World) : (Instr.makeSlice 50 (.int .i64 ((n : Int) + 1)) (.int .i64 ((n : Int) + 1))).run Try.prog wx = .ok (.slice (some ⟨wx.heap.size, 0, none⟩) (n + 1) (n + 1)) (wx.alloc (.cells (madeCells #[.slice none 0 0] (n + 1)) 66)) := by
  obtain ⟨i, hi, hz0, hs, hby⟩ := info_parts known_info
  have h := run_make (P := Try.prog) (w := wx) 50 66 i _ Try.underlying50 hi hz0 .i64 .i64 ((n : Int) + 1) ((n : Int) + 1) (by omega) (Int.le_refl _) (by rw [hby]; omega) (by omega)
  rw [hs, show ((n : Int) + 1).toNat = n + 1 by omega, Nat.mul_one] at h
  exact h
theorem made_known (L m : Nat) : madeCells #[.slice none 0 0] m = (tabV m fun _ => rowVal L none).toArray := by
  have h := madeCells_tab (.slice none 0 0) m
  rw [Nat.mul_one] at h
  show _ = (tabV m fun _ => .slice none 0 0).toArray
  rw [← h]
section
variable {w w' : World} {base wb kb b n L : Nat} {T : Nat → Nat → Pl} {R R' : Nat → Option Nat}
/-- a row of the call's own grows -/
theorem Mem.grown (h : Mem w base wb kb b n L T R) {g : Option Nat} (hg : w.grownBy w' g) (ho : ∀ x, g = some x → Out kb R x ∧ x ≠ wb) : Mem w' base wb kb b n L T R :=
  ⟨h.wk.grown hg (fun e => (ho wb e.symm).2 rfl), h.kn.grown hg (fun e => (ho kb e.symm).1.1 rfl), fun j g' hj => by
    obtain ⟨h1, K, h2⟩ := h.row j g' hj
    exact ⟨h1, K, h2.grown hg (fun e => (ho g' e.symm).1.2 j hj)⟩, h.inj, h.hi, h.low⟩
theorem own_kept {bs : Nat} {e : TypeId} {size m : Nat} {v : Value} {xs : List Value} (h : w.ownsRow bs e size v m xs) (ho : ∀ x, v.ownBlock = some x → Out kb R x) (hk : Kept kb R R' w w') : w'.ownsRow bs e size v m xs := by
  refine ⟨h.1, ?_⟩
  rcases h.2 with h2 | ⟨g, cap, cur, h1, h2, h3, h4⟩
  · exact .inl h2
  · refine .inr ⟨g, cap, cur, h1, h2, ?_, h4⟩
    rw [hk.block g (Array.getElem?_eq_some_iff.1 h3).1 (ho g (by rw [h1]; rfl))]
    exact h3
end
theorem own_out {w : World} {base wb kb b n L : Nat} {T : Nat → Nat → Pl} {R : Nat → Option Nat} (hm : Mem w base wb kb b n L T R) {bs size m : Nat} {v : Value} {xs : List Value} (h : w.ownsRow bs 35 size v m xs) : ∀ x, v.ownBlock = some x → Out kb R x ∧ x ≠ wb := fun x hx => by
  rcases h.2 with ⟨rfl, _⟩ | ⟨g, cap, cur, rfl, h2, h3, h4⟩
  · cases hx
  · have e : g = x := by simpa [Value.ownBlock] using hx
    subst e
    have hb : Blk w g 35 cur := h3
    refine ⟨⟨fun e => ?_, fun j hj => ?_⟩, fun e => ?_⟩
    · subst e
      exact blk_ne_type hb hm.kn (by decide) rfl
    · obtain ⟨_, K, h5⟩ := hm.row j g hj
      exact blk_ne_type hb h5 (by decide) rfl
    · subst e
      exact blk_ne_type hb hm.wk (by decide) rfl
theorem field_co (wx : World) (x y z : Int) : (Instr.field 56 (.agg #[.bool true, .int .i64 x, .int .i64 y, .int .i64 z]) 2).run Try.prog wx = .ok (.int .i64 y) wx := by kernel_rfl
theorem mem_new {w : World} {b n L : Nat} {T : Nat → Nat → Pl} {kb wb base : Nat} (h1 : Blk w wb 52 #[.pointer (some ⟨b, 0, none⟩), .slice (some ⟨kb, 0, none⟩) (n + 1) (n + 1)]) (h2 : Blk w kb 66 (madeCells #[.slice none 0 0] (n + 1))) (hl : base ≤ kb ∧ base ≤ wb) : Mem w base wb kb b n L T (fun _ => none) := by
  rw [made_known L] at h2
  exact ⟨h1, h2, fun j g hj => (by cases hj), fun i j g hi => (by cases hi), fun j _ => rfl, hl⟩

set_option maxRecDepth 100000 in
set_option maxHeartbeats 8000000 in
theorem Break_ok (Ap : Option Addr) (P : Pts) (cp : Nat) (Aw : Option Addr) (ws : List Int) (D : Int) (cw : Nat) (w : World) (hr : RdF w Ap P.n 6 (ptV P)) (hv : VP P) (hw : RdI w Aw ws) (hs : VS ws D) :
    Calls Try.prog 9 #[.slice Ap P.n cp, .agg #[.slice Aw ws.length cw, .int .i64 D]] w (Told (chain P ws D (P.n + 1) (bg P 0) 0 false) (B P ws D (bg P 0) 0 false).co w) := by
  have few := hv.few
  have hs0 := hs.some_
  have hs1 := hs.few
  have hD := hs.dbl
  have hbl := (Below.refl w.heap.size w).alloc (Nat.le_refl _) (.cells #[.slice Aw ws.length cw, .int .i64 D] 25)
  have bx := Blk.new w 25 #[.slice Aw ws.length cw, .int .i64 D]
  have hr1 := hr.below hbl
  have hw1 := hw.below hbl
  have Hww := hide hs.ok
  have hbg := bg_bd P (Nat.zero_le P.n)
  have HD := hide hD
  have hmk := make_known P.n few
  go_enter Try.func9, Try.ntmps9
  go_upto_region 1 with fail
  have HC := hide (check_ok Ap P cp Aw ws D cw _ hr1 hv hw1 hs)
  have HPr := hide (fun wx (a : RdF wx Ap P.n 6 (ptV P)) (b : RdI wx Aw ws) => prepare_ok Ap P cp Aw ws D cw wx a hv b)
  have Hv := hide hv
  clear hr hw hv hs hD
  generalize w.alloc (.cells #[.slice Aw ws.length cw, .int .i64 D] 25) = w1 at *
  have m0 : w1.cell? ⟨w.heap.size, 0, none⟩ = some (.slice Aw ws.length cw) := bx.cell 0
  have m1 : w1.cell? ⟨w.heap.size, 1, none⟩ = some (.int .i64 D) := bx.cell 1
  go_wp2_with fail
  refine HC.out.mono ?_
  rintro e w2 ⟨rfl, hb2⟩
  have bx2 := bx.below hb2 bx.lt
  have hr2 := hr1.below hb2
  have hw2 := hw1.below hb2
  have hbl2 := hbl.trans (hb2.mono hbl.size)
  clear m0 m1 bx hr1 hw1 hb2 hbl HC
  have m0 : w2.cell? ⟨w.heap.size, 0, none⟩ = some (.slice Aw ws.length cw) := bx2.cell 0
  have m1 : w2.cell? ⟨w.heap.size, 1, none⟩ = some (.int .i64 D) := bx2.cell 1
  go_wp2_with fail
  refine (HPr.out w2 hr2 hw2).mono ?_
  rintro e w3 ⟨b, A2, A3, A4, A5, c2, c3, c4, c5, rfl, M, hb3⟩
  have hbl3 := hbl2.trans (hb3.mono hbl2.size)
  clear m0 m1 bx2 hr2 hw2 hb3 hbl2 HPr
  have H4 := hide M
  have Hb3 := hide hbl3
  clear M hbl3
  go_upto_region 6 with fail
  have hal := ((Below.refl w3.heap.size w3).alloc (Nat.le_refl _) (.cells (madeCells #[.slice none 0 0] (P.n + 1)) 66)).alloc (by simp) (.cells #[.pointer (some ⟨b, 0, none⟩), .slice (some ⟨w3.heap.size, 0, none⟩) (P.n + 1) (P.n + 1)] 52)
  have hmem : Mem ((w3.alloc (.cells (madeCells #[.slice none 0 0] (P.n + 1)) 66)).alloc (.cells #[.pointer (some ⟨b, 0, none⟩), .slice (some ⟨w3.heap.size, 0, none⟩) (P.n + 1) (P.n + 1)] 52)) w3.heap.size (w3.heap.size + 1) w3.heap.size b P.n ws.length (TB P ws D) (fun _ => none) :=
    mem_new (by
      have h := Blk.new (w3.alloc (.cells (madeCells #[.slice none 0 0] (P.n + 1)) 66)) 52 #[.pointer (some ⟨b, 0, none⟩), .slice (some ⟨w3.heap.size, 0, none⟩) (P.n + 1) (P.n + 1)]
      rwa [hsz_alloc] at h) ((Blk.new w3 _ _).alloc _) ⟨Nat.le_refl _, by omega⟩
  generalize (w3.alloc (.cells (madeCells #[.slice none 0 0] (P.n + 1)) 66)).alloc (.cells #[.pointer (some ⟨b, 0, none⟩), .slice (some ⟨w3.heap.size, 0, none⟩) (P.n + 1) (P.n + 1)] 52) = w5 at *
  generalize hwb : w3.heap.size + 1 = wb at *
  obtain ⟨kb, hkb⟩ : ∃ kb, kb = w3.heap.size := ⟨_, rfl⟩
  have Hbeg : Hid (∀ wx, Below w3.heap.size w3 wx → wx.cell? ⟨b, 6, none⟩ = some (.slice A5 (P.n + 2) c5) ∧ ∃ b5 o5, A5 = some ⟨b5, o5, none⟩ ∧ wx.cell? ⟨b5, o5, none⟩ = some (.int .i64 (bg P 0))) := fun wx hb => by
    have M := H4.out.below hb
    obtain ⟨b5, o5, e5, k5⟩ := M.w5.at_ (k := 0) (by rw [tab_length]; omega)
    rw [tab_ix _ (by omega), if_pos (by omega)] at k5
    exact ⟨M.c6, b5, o5, e5, k5⟩
  obtain ⟨c6, b5, o5, rfl, k5⟩ := Hbeg.out w5 hal
  have i5 : (0 : Int) < (P.n : Int) + 2 := by omega
  have Hal := hide hal
  have Hmem := hide hmem
  clear hmk hal hmem
  go_wp2_with fail
  clear c6 k5
  generalize hfr0 : bg P 0 = fr0 at *
  go_loopw [10, 11, 12, 13] (fun v a y z wr => ∃ (L : List Lin) (fr k f : Nat) (fl : Bool) (R : Nat → Option Nat), a = .int .i64 fr ∧ y = .int .i64 k ∧ z = .bool fl ∧ fr ≤ P.n ∧ k ≤ fr ∧ P.n + 1 - fr ≤ f ∧ L.length ≤ fr ∧
    Hid (chain P ws D (P.n + 1) fr0 0 false = L ++ chain P ws D f fr k fl) ∧ wr.ownsRow w3.heap.size 35 6 v L.length (rowL L) ∧ Hid (Mem wr w3.heap.size wb w3.heap.size b P.n ws.length (TB P ws D) R ∧ Below w3.heap.size w3 wr ∧ ∀ x, v.ownBlock = some x → Out w3.heap.size R x ∧ x ≠ wb)) (fun _ a _ _ _ => P.n + 1 - (intOf a).toNat)
  case atStart => exact ⟨[], fr0, 0, P.n + 1, false, fun _ => none, rfl, rfl, rfl, by omega, by omega, by omega, by simp, hide rfl, World.ownsRow_nil _ _ _ _, hide ⟨Hmem.out, Hal.out, fun x hx => by cases hx⟩⟩
  case round =>
    obtain ⟨L, fr, k, f, fl, R, rfl, rfl, rfl, h1, h2, h3, h4, HE, hown, HM⟩ := hrel
    obtain ⟨A9, c9, rfl⟩ := own_form hown
    obtain ⟨f, rfl⟩ : ∃ g, f = g + 1 := ⟨f - 1, by omega⟩
    have hB := hide (best_ok H4.out Hv.out hs0 (by omega) Hww.out HD.out _ fr rfl h1 k fl _ R (by omega) HM.out.2.1 HM.out.1)
    have HG := hide (show chain P ws D (f + 1) fr k fl = line P ws fr (B P ws D fr (min k (ws.length - 1)) fl).en.toNat k :: if last P (B P ws D fr (min k (ws.length - 1)) fl).en.toNat then [] else chain P ws D f (after P (B P ws D fr (min k (ws.length - 1)) fl).en.toNat) (k + 1) (flag P (B P ws D fr (min k (ws.length - 1)) fl).en.toNat) from rfl)
    obtain ⟨⟨x, hx⟩, -⟩ := B_best P ws D (min k (ws.length - 1)) fl h1
    have hxe := ends_mem h1 hx.mem
    obtain ⟨q, hq⟩ : ∃ q, q = x.en := ⟨_, rfl⟩
    have hqe : (B P ws D fr (min k (ws.length - 1)) fl).en = (q : Int) := by rw [hx.eq, hq]
    have hq1 : fr ≤ q := by rw [hq]; exact hxe.ge
    have hq2 : q ≤ P.n := by rw [hq]; exact hxe.le
    rw [hqe, Int.toNat_natCast] at HG
    have Hqe := hide hqe
    clear hx hxe hq hqe x
    generalize B P ws D fr (min k (ws.length - 1)) fl = p at *
    have hsz := HM.out.2.1.size
    go_wp2_with fail
    refine hB.out.mono ?_
    rintro e w6 ⟨R2, rfl, hm6, hk6⟩
    have hown6 := own_kept hown (fun x hx => (HM.out.2.2 x hx).1) hk6
    have hbel6 := HM.out.2.1.trans (hk6.to_below hsz hm6.low.1 (fun j g hj => (HM.out.1.row j g hj).1))
    have hout6 : ∀ x, (Value.slice A9 L.length c9).ownBlock = some x → Out w3.heap.size R2 x ∧ x ≠ wb := fun x hx => ⟨(HM.out.2.2 x hx).1.kept (hown.lt x hx).2 hk6, (HM.out.2.2 x hx).2⟩
    unfold plA
    rw [Hqe.out]
    clear hB HM hown hk6
    go_upto_region 9 with fail
    have hal := (Below.refl w6.heap.size w6).alloc (Nat.le_refl _) (.cells #[.bool true, .int .i64 (q : Int), .int .i64 p.co, .int .i64 p.li] 56)
    have bp := Blk.new w6 56 #[.bool true, .int .i64 (q : Int), .int .i64 p.co, .int .i64 p.li]
    have hown7 := own_below hown6 hal
    have hbel7 := hbel6.trans (hal.mono hbel6.size)
    have hm7 := hm6.below hal
    have hop : some w6.heap.size ≠ (Value.slice A9 L.length c9).ownBlock := fun e => by have := (hown6.lt _ e.symm).2; omega
    clear hown6 hbel6 hm6 hal
    generalize w6.alloc (.cells #[.bool true, .int .i64 (q : Int), .int .i64 p.co, .int .i64 p.li] 56) = w7 at *
    generalize w6.heap.size = gp at *
    have y1 : w7.cell? ⟨gp, 1, none⟩ = some (.int .i64 (q : Int)) := bp.cell 1
    have HL := hide (line_ok (H4.out.below hbel7) Hv.out hq1 hq2 (k := k) (by omega) hs0 (by omega))
    have H7 := hide (And.intro hown7 (And.intro hbel7 (And.intro hm7 (And.intro bp hout6))))
    clear hown7 hbel7 hm7 bp hout6
    generalize hlx : line P ws fr q k = x at *
    go_wp2_with fail
    refine HL.out.mono ?_
    rintro e w8 ⟨rfl, hb8⟩
    obtain ⟨hown7, hbel7, hm7, bp, hout6⟩ := H7.out
    have hown8 := own_below hown7 hb8
    have hbel8 := hbel7.trans (hb8.mono hbel7.size)
    have hm8 := hm7.below hb8
    have bp8 := bp.below hb8 bp.lt
    have hsz8 := hbel8.size
    clear hown7 hbel7 hm7 bp hb8 H7 HL y1
    unfold linA
    go_upto_region 10 with (at_builtin; refine wpL_append rfl rfl Try.underlying29 lb_info rfl (by decide) rfl rfl (hown8.alloc _) (news_at _ _ _ _ (by simp)) rfl (by simp [Value.oneCell']) (by omega) (by omega) (by simp; omega) ?_; intro v9 w9 hrow9 hgrow9)
    have hm9 := (hm8.below ((Below.refl w8.heap.size w8).alloc (Nat.le_refl _) (.cells #[.int .i64 x.fr, .int .i64 x.en, .int .i64 x.nat, .int .i64 x.str, .int .i64 x.shr, .int .i64 x.wid] 35))).grown hgrow9 hout6
    have hbel9 := below_app (hbel8.alloc hsz8 (.cells #[.int .i64 x.fr, .int .i64 x.en, .int .i64 x.nat, .int .i64 x.str, .int .i64 x.shr, .int .i64 x.wid] 35)) (by simp; omega) (hown8.alloc _) hgrow9
    have bp9 := (bp8.alloc (.cells #[.int .i64 x.fr, .int .i64 x.en, .int .i64 x.nat, .int .i64 x.str, .int .i64 x.shr, .int .i64 x.wid] 35)).grown hgrow9 hop
    obtain ⟨A10, c10, rfl⟩ := own_form hrow9
    rw [← rowL_push, show L.length + 1 = (L ++ [x]).length by simp] at hrow9
    rw [show L.length + 1 = (L ++ [x]).length by simp]
    have y1 : w9.cell? ⟨gp, 1, none⟩ = some (.int .i64 (q : Int)) := bp9.cell 1
    have HLa := hide (last_ok (H4.out.below hbel9) few hq2)
    have H9 := hide (And.intro hrow9 (And.intro hbel9 (And.intro hm9 bp9)))
    have Hal := hide (fun hl => after_lt hq2 hl)
    clear hm8 hbel8 bp8 hown8 hm9 hbel9 bp9 hrow9 hgrow9 hout6 hop
    generalize hla : last P q = la at *
    go_wp2_with fail
    refine HLa.out.mono ?_
    rintro e w10 ⟨rfl, dn, rfl⟩
    have H10 := hide (And.intro (own_drewN H9.out.1 dn) (And.intro (below_drewN H9.out.2.1 dn) (And.intro (H9.out.2.2.1.drewN dn) (H9.out.2.2.2.drewN dn))))
    clear H9 HLa y1
    generalize w9.drewN dn = w10 at *
    obtain ⟨hrow, hbel, hm, bp⟩ := H10.out
    cases la with
    | true =>
      have HR := hide (show chain P ws D (P.n + 1) fr0 0 false = L ++ [x] by rw [HE.out, HG.out]; rfl)
      obtain ⟨c6, b5', o5', e5, k5⟩ := Hbeg.out w10 hbel
      injection e5 with e5
      injection e5 with e5 e5'
      subst e5 e5'
      have hB := hide (best_ok H4.out Hv.out hs0 (by omega) Hww.out HD.out _ fr0 rfl hbg.2 0 false _ R2 (by omega) hbel hm)
      rw [show min 0 (ws.length - 1) = 0 by omega] at hB
      clear HE HG hrow hbel hm bp Hal hla Hqe
      go_wp2_with fail
      refine hB.out.mono ?_
      rintro e w11 ⟨R3, rfl, hm11, hk11⟩
      obtain ⟨hrow, hbel, hm, bp⟩ := H10.out
      have hrow11 := own_kept hrow (fun x hx => (own_out hm hrow x hx).1) hk11
      have hbel11 := hbel.trans (hk11.to_below hbel.size hm.low.1 (fun j g hj => (hm.row j g hj).1))
      unfold plA
      have hfc := field_co w11
      have HF := hide (And.intro hrow11 hbel11)
      clear hrow hbel hm bp hrow11 hbel11 hm11 hk11 hB c6 k5
      go_wp2_with fail
      refine bodyPost_ret (v := .tuple #[.slice A10 (L ++ [x]).length c10, .int .i64 (B P ws D fr0 0 false).co, .int .i64 0]) (by simp [results, Try.results9, go_sem]) rfl ?_
      exact ⟨A10, c10, by rw [HR.out], by rw [HR.out]; exact ownsRow_less HF.out.1 Hb3.out.size, Hb3.out.trans (HF.out.2.mono Hb3.out.size)⟩
    | false =>
      obtain ⟨a1, a2, a3⟩ := Hal.out rfl
      have HR := hide (show chain P ws D (P.n + 1) fr0 0 false = (L ++ [x]) ++ chain P ws D f (after P q) (k + 1) (flag P q) by rw [HE.out, HG.out]; simp)
      have y1 : w10.cell? ⟨gp, 1, none⟩ = some (.int .i64 (q : Int)) := bp.cell 1
      have HAf : Hid (∀ d, Calls Try.prog 20 #[.pointer (some ⟨b, 0, none⟩), .int .i64 q] (w10.drewN d) fun e w' => e = .returned (.int .i64 (after P q)) ∧ w' = w10.drewN d) := fun d => (after_ok (H4.out.below (below_drewN hbel d)) few hq2).mono fun e w' h => ⟨h.1, h.2.symm⟩
      have HFl2 : Hid (∀ d, Calls Try.prog 21 #[.pointer (some ⟨b, 0, none⟩), .int .i64 q] (w10.drewN d) fun e w' => e = .returned (.bool (flag P q)) ∧ w' = w10.drewN d) := fun d => (flagged_ok (H4.out.below (below_drewN hbel d)) hq2).mono fun e w' h => ⟨h.1, h.2.symm⟩
      clear HE HG hrow hbel hm bp Hal hla Hqe
      generalize flag P q = fx at *
      generalize after P q = ax at *
      have hll : (L ++ [x]).length ≤ ax := by simp; omega
      go_upto_region 12 with fail
      go_quiet ((first | (go_at_call 20; with_reducible exact Calls.quiet_of_same (HAf.out _)) | (go_at_call 21; with_reducible exact Calls.quiet_of_same (HFl2.out _))))
      go_wp2_with fail
      exact ⟨⟨L ++ [x], ax, k + 1, f, fx, R2, rfl, by simp, rfl, by omega, by omega, by omega, hll, HR, (by have h := H10.out.1; simp only [List.length_append, List.length_singleton] at h ⊢; exact h), hide ⟨H10.out.2.2.1.drewN _, below_drewN H10.out.2.1 _, (by have h := own_out H10.out.2.2.1 H10.out.1; simp only [List.length_append, List.length_singleton] at h; exact h)⟩⟩, by simp only [intOf]; omega⟩
end Go.Proofs.Ytmjhmcjlbcadaaa.Ln
