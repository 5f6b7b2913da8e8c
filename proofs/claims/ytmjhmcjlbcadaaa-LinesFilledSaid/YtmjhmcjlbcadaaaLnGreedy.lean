/- The contract of Greedy. -/
import Derived.Test.YtmjhmcjlbcadaaaLnBreakPlain
import Derived.Test.YtmjhmcjlbcadaaaLnPrepare
namespace Go.Proofs.Ytmjhmcjlbcadaaa.Ln
open Go.RowKit Go.Frm

def Told (L : List Lin) (C : Int) (w : World) (e : Ending) (w' : World) : Prop :=
  ∃ A c, e = .returned (.tuple #[.slice A L.length c, .int .i64 C, .int .i64 0]) ∧ w'.ownsRow w.heap.size 35 6 (.slice A L.length c) L.length (rowL L) ∧ Below w.heap.size w w'
theorem VS.ok {ws : List Int} {D : Int} (h : VS ws D) : ∀ x, x ∈ ws → 0 ≤ x ∧ x ≤ 400000 := fun x hx => by have := h.wide x hx; omega
theorem row_get {L : List Lin} {w : World} {bs g c : Nat} (h : w.ownsRow bs 35 6 (.slice (some ⟨g, 0, none⟩) L.length c) L.length (rowL L)) {i : Nat} (hi : i < L.length) {x : Lin} (hx : L.getD i ⟨0, 0, 0, 0, 0, 0⟩ = x) :
    w.cell? ⟨g, i * 6, none⟩ = some (.int .i64 x.fr) ∧ w.cell? ⟨g, i * 6 + 1, none⟩ = some (.int .i64 x.en) ∧ w.cell? ⟨g, i * 6 + 2, none⟩ = some (.int .i64 x.nat) ∧ w.cell? ⟨g, i * 6 + 3, none⟩ = some (.int .i64 x.str) ∧ w.cell? ⟨g, i * 6 + 4, none⟩ = some (.int .i64 x.shr) ∧ w.cell? ⟨g, i * 6 + 5, none⟩ = some (.int .i64 x.wid) := by
  subst hx
  exact ⟨own_cellF h hi (show 0 < 6 by omega), own_cellF h hi (show 1 < 6 by omega), own_cellF h hi (show 2 < 6 by omega), own_cellF h hi (show 3 < 6 by omega), own_cellF h hi (show 4 < 6 by omega), own_cellF h hi (show 5 < 6 by omega)⟩
theorem lastE_get (P : Pts) (ws : List Int) {fr : Nat} (k : Nat) (h : fr ≤ P.n) : (ends P ws fr k).getD ((ends P ws fr k).length - 1) ⟨0, 0, 0, 0, 0, 0⟩ = lastE P ws fr k := by
  unfold lastE
  rw [List.getLastD_eq_getLast?, List.getLast?_eq_getElem?, List.getD_eq_getElem?_getD]

set_option maxRecDepth 100000 in
set_option maxHeartbeats 8000000 in
theorem Greedy_ok (Ap : Option Addr) (P : Pts) (cp : Nat) (Aw : Option Addr) (ws : List Int) (D : Int) (cw : Nat) (w : World) (hr : RdF w Ap P.n 6 (ptV P)) (hv : VP P) (hw : RdI w Aw ws) (hs : VS ws D) :
    Calls Try.prog 10 #[.slice Ap P.n cp, .agg #[.slice Aw ws.length cw, .int .i64 D]] w (Told (greedy P ws (P.n + 1) (bg P 0) 0) (gcost P ws D (P.n + 1) (bg P 0) 0 false) w) := by
  have few := hv.few
  have hs0 := hs.some_
  have hs1 := hs.few
  have hD := hs.dbl
  have hbl := (Below.refl w.heap.size w).alloc (Nat.le_refl _) (.cells #[.slice Aw ws.length cw, .int .i64 D] 25)
  have bx := Blk.new w 25 #[.slice Aw ws.length cw, .int .i64 D]
  have hr1 := hr.below hbl
  have hw1 := hw.below hbl
  have Hww := hide hs.ok
  have hbg := bg_bd P (Nat.zero_le P.n)
  have HD := hide hD
  go_enter Try.func10, Try.ntmps10
  go_upto_region 1 with fail
  have HC := hide (check_ok Ap P cp Aw ws D cw _ hr1 hv hw1 hs)
  have HPr := hide (fun wx (a : RdF wx Ap P.n 6 (ptV P)) (b : RdI wx Aw ws) => prepare_ok Ap P cp Aw ws D cw wx a hv b)
  have Hv := hide hv
  clear hr hw hv hs hD
  generalize w.alloc (.cells #[.slice Aw ws.length cw, .int .i64 D] 25) = w1 at *
  have m0 : w1.cell? ⟨w.heap.size, 0, none⟩ = some (.slice Aw ws.length cw) := bx.cell 0
  have m1 : w1.cell? ⟨w.heap.size, 1, none⟩ = some (.int .i64 D) := bx.cell 1
  go_wp2_with fail
  refine HC.out.mono ?_
  rintro e w2 ⟨rfl, hb2⟩
  have bx2 := bx.below hb2 bx.lt
  have hr2 := hr1.below hb2
  have hw2 := hw1.below hb2
  have hbl2 := hbl.trans (hb2.mono hbl.size)
  clear m0 m1 bx hr1 hw1 hb2 hbl HC
  have m0 : w2.cell? ⟨w.heap.size, 0, none⟩ = some (.slice Aw ws.length cw) := bx2.cell 0
  have m1 : w2.cell? ⟨w.heap.size, 1, none⟩ = some (.int .i64 D) := bx2.cell 1
  go_wp2_with fail
  refine (HPr.out w2 hr2 hw2).mono ?_
  rintro e w3 ⟨b, A2, A3, A4, A5, c2, c3, c4, c5, rfl, M, hb3⟩
  have bx3 := bx2.below hb3 bx2.lt
  have hbl3 := hbl2.trans (hb3.mono hbl2.size)
  clear m0 m1 bx2 hr2 hw2 hb3 hbl2 HPr
  have c6 := M.c6
  obtain ⟨b5, o5, rfl, k5⟩ := M.w5.at_ (k := 0) (by rw [tab_length]; omega)
  rw [tab_ix _ (by omega), if_pos (by omega)] at k5
  simp only [Nat.add_zero] at k5
  have i5 : (0 : Int) < (P.n : Int) + 2 := by omega
  have hMb := M.blk.lt
  go_upto_region 6 with fail
  go_quiet (fail)
  have H4 := hide (M.drewN nq)
  have Hb4 := hide (below_drewN hbl3 nq)
  have HB4 := hide (bx3.drewN nq)
  clear M bx3 hbl3 c6 k5 hMb
  generalize w3.drewN nq = w4 at *
  generalize hfr0 : bg P 0 = fr0 at *
  go_wp2_with fail
  go_loopw [9, 10, 11, 12, 13] (fun v u a y z wr => ∃ (L : List Lin) (C : Int) (fr k f : Nat) (fl : Bool), u = .int .i64 C ∧ a = .int .i64 fr ∧ y = .bool fl ∧ z = .int .i64 k ∧ fr ≤ P.n ∧ k ≤ fr ∧ P.n + 1 - fr ≤ f ∧ L.length ≤ fr ∧ (-(fr * 2000000000000 : Int) ≤ C ∧ C ≤ fr * 2000000000000) ∧
    Hid (greedy P ws (P.n + 1) fr0 0 = L ++ greedy P ws f fr k ∧ gcost P ws D (P.n + 1) fr0 0 false = C + gcost P ws D f fr k fl) ∧ wr.ownsRow w4.heap.size 35 6 v L.length (rowL L) ∧ Hid (Below w4.heap.size w4 wr)) (fun _ _ a _ _ _ => P.n + 1 - (intOf a).toNat)
  case atStart => exact ⟨[], 0, fr0, 0, P.n + 1, false, rfl, rfl, rfl, rfl, by omega, by omega, by omega, by simp, ⟨by omega, by omega⟩, hide ⟨rfl, by rw [Int.zero_add]⟩, World.ownsRow_nil _ _ _ _, hide (Below.refl _ _)⟩
  case round =>
    obtain ⟨L, C, fr, k, f, fl, rfl, rfl, rfl, rfl, h1, h2, h3, h4, ⟨hC0, hC1⟩, HE, hown, Hbl⟩ := hrel
    obtain ⟨A9, c9, rfl⟩ := own_form hown
    obtain ⟨f, rfl⟩ : ∃ g, f = g + 1 := ⟨f - 1, by omega⟩
    have HEnd := hide (ends_ok (H4.out.below Hbl.out) Hv.out hs0 (by omega) Hww.out (fr := fr) (k := k) h1 (by omega))
    have hne := ends_ne P ws k h1
    have hgt := lastE_get P ws k h1
    have hmem := lastE_mem P ws k h1
    have hpos : 0 < (ends P ws fr k).length := List.length_pos_iff.2 hne
    have hlen := ends_len P ws fr k
    have hxe := ends_mem h1 hmem
    have hvl := end_vl Hv.out Hww.out hxe
    have hcb := cost_bd Hv.out hvl
    have HG := hide (show greedy P ws (f + 1) fr k = lastE P ws fr k :: if last P (lastE P ws fr k).en then [] else greedy P ws f (after P (lastE P ws fr k).en) (k + 1) from rfl)
    have HGC := hide (show gcost P ws D (f + 1) fr k fl = cost P (lastE P ws fr k) + (if fl && flag P (lastE P ws fr k).en then D else 0) + (if last P (lastE P ws fr k).en then 0 else gcost P ws D f (after P (lastE P ws fr k).en) (k + 1) (flag P (lastE P ws fr k).en)) from rfl)
    have Hgt := hide hgt
    have Hxe := hide hxe
    have Hvl := hide hvl
    clear hne hgt hmem hxe hvl
    generalize ends P ws fr k = E at *
    generalize lastE P ws fr k = x at *
    have hsz := Hbl.out.size
    have hsz4 := Hb4.out.size
    go_wp2_with fail
    refine HEnd.out.mono ?_
    rintro e w5 ⟨AE, cE, rfl, hownE, hb5⟩
    have hown5 := own_below hown hb5
    have hbl5 := Hbl.out.trans (hb5.mono hsz)
    obtain ⟨gE, rfl, -⟩ := own_at hownE hpos
    obtain ⟨k0, k1, k2, k3, k4, k5⟩ := row_get hownE (show E.length - 1 < E.length by omega) Hgt.out
    have q1 : IntKind.i64.wrap ((E.length : Int) - 1) = ((E.length - 1 : Nat) : Int) := by rw [IntWalk.i64_in _ (by omega)]; omega
    have q2 : (E.length : Int) - 1 = ((E.length - 1 : Nat) : Int) := by omega
    generalize E.length - 1 = li at *
    clear hown hownE hb5 HEnd
    go_upto_region 11 with fail
    have hal := (Below.refl w5.heap.size w5).alloc (Nat.le_refl _) (.cells #[.int .i64 x.fr, .int .i64 x.en, .int .i64 x.nat, .int .i64 x.str, .int .i64 x.shr, .int .i64 x.wid] 35)
    have bx6 := Blk.new w5 35 #[.int .i64 x.fr, .int .i64 x.en, .int .i64 x.nat, .int .i64 x.str, .int .i64 x.shr, .int .i64 x.wid]
    have hown6 := own_below hown5 hal
    have hbl6 := hbl5.trans (hal.mono hbl5.size)
    have hox : some w5.heap.size ≠ (Value.slice A9 L.length c9).ownBlock := fun e => by have := (hown5.lt _ e.symm).2; omega
    clear hown5 hbl5 hal k0 k1 k2 k3 k4 k5
    generalize w5.alloc (.cells #[.int .i64 x.fr, .int .i64 x.en, .int .i64 x.nat, .int .i64 x.str, .int .i64 x.shr, .int .i64 x.wid] 35) = w6 at *
    generalize w5.heap.size = gx at *
    have x0 : w6.cell? ⟨gx, 0, none⟩ = some (.int .i64 x.fr) := bx6.cell 0
    have x1 : w6.cell? ⟨gx, 1, none⟩ = some (.int .i64 x.en) := bx6.cell 1
    have x2 : w6.cell? ⟨gx, 2, none⟩ = some (.int .i64 x.nat) := bx6.cell 2
    have x3 : w6.cell? ⟨gx, 3, none⟩ = some (.int .i64 x.str) := bx6.cell 3
    have x4 : w6.cell? ⟨gx, 4, none⟩ = some (.int .i64 x.shr) := bx6.cell 4
    have x5 : w6.cell? ⟨gx, 5, none⟩ = some (.int .i64 x.wid) := bx6.cell 5
    have hbs6 := hbl6.size
    have hbw : w.heap.size ≤ w6.heap.size := by omega
    go_upto_region 12 with (at_builtin; refine wpL_append rfl rfl Try.underlying29 lb_info rfl (by decide) rfl rfl (hown6.alloc _) (news_at _ _ _ _ (by simp)) rfl (by simp [Value.oneCell']) (by omega) (by omega) (by simp; omega) ?_; intro v7 w7 hrow7 hgrow7)
    have bx7 := (bx6.alloc (.cells #[.int .i64 x.fr, .int .i64 x.en, .int .i64 x.nat, .int .i64 x.str, .int .i64 x.shr, .int .i64 x.wid] 35)).grown hgrow7 hox
    have hbl7 := below_app (hbl6.alloc hbl6.size (.cells #[.int .i64 x.fr, .int .i64 x.en, .int .i64 x.nat, .int .i64 x.str, .int .i64 x.shr, .int .i64 x.wid] 35)) (by simp; omega) (hown6.alloc _) hgrow7
    rw [← rowL_push] at hrow7
    obtain ⟨A10, c10, rfl⟩ := own_form hrow7
    rw [show L.length + 1 = (L ++ [x]).length by simp] at hrow7 ⊢
    clear x0 x1 x2 x3 x4 x5 hbs6 hbw hown6 hbl6 bx6 hgrow7 hox
    have Hrow := hide hrow7
    have Hb7 := hide hbl7
    have Hx7 := hide bx7
    clear hrow7 hbl7 bx7
    have x0 : w7.cell? ⟨gx, 0, none⟩ = some (.int .i64 x.fr) := Hx7.out.cell 0
    have x1 : w7.cell? ⟨gx, 1, none⟩ = some (.int .i64 x.en) := Hx7.out.cell 1
    have x2 : w7.cell? ⟨gx, 2, none⟩ = some (.int .i64 x.nat) := Hx7.out.cell 2
    have x3 : w7.cell? ⟨gx, 3, none⟩ = some (.int .i64 x.str) := Hx7.out.cell 3
    have x4 : w7.cell? ⟨gx, 4, none⟩ = some (.int .i64 x.shr) := Hx7.out.cell 4
    have x5 : w7.cell? ⟨gx, 5, none⟩ = some (.int .i64 x.wid) := Hx7.out.cell 5
    have HCo := hide (cost_ok (H4.out.below Hb7.out) Hv.out Hvl.out)
    have q3 : IntKind.i64.wrap (C + cost P x) = C + cost P x := IntWalk.i64_in _ (by omega)
    unfold linA at HCo
    go_wp2_with fail
    refine HCo.out.mono ?_
    rintro e w8 ⟨rfl, hb8⟩
    have Hrow8 := hide (own_below Hrow.out hb8)
    have Hb8 := hide (Hb7.out.trans (hb8.mono Hb7.out.size))
    have Hx8 := hide (Hx7.out.below hb8 Hx7.out.lt)
    clear x0 x1 x2 x3 x4 x5 hb8 Hrow Hb7 Hx7 HCo
    have x1 : w8.cell? ⟨gx, 1, none⟩ = some (.int .i64 x.en) := Hx8.out.cell 1
    have HFl := hide (flagged_ok (H4.out.below Hb8.out) Hxe.out.le)
    go_upto_region 13 with fail
    go_cut [58] (fun v wd => v = .bool (fl && flag P x.en) ∧ w8 = wd)
    case first =>
      cases fl with
      | false =>
        go_wp2_with fail
        go_meet
        exact ⟨rfl, rfl⟩
      | true =>
        generalize flag P x.en = ff at *
        go_wp2_with fail
        refine HFl.out.mono ?_
        rintro e wd ⟨rfl, rfl⟩
        go_wp2_with fail
        go_meet
        exact ⟨by simp, rfl⟩
    case rest =>
      obtain ⟨rfl, rfl⟩ := hcut
      clear HFl
      generalize hfd : (fl && flag P x.en) = fd at *
      have hD0 := HD.out
      have y1 : w8.cell? ⟨w.heap.size, 1, none⟩ = some (.int .i64 D) := (HB4.out.below Hb8.out HB4.out.lt).cell 1
      go_upto_if 58 with fail
      go_cut [10] (fun u wd => u = .int .i64 (C + cost P x + if fd then D else 0) ∧ w8 = wd)
      case first =>
        cases fd with
        | false =>
          go_wp2_with fail
          go_meet
          exact ⟨by simp, rfl⟩
        | true =>
          have q4 : IntKind.i64.wrap (C + cost P x + D) = C + cost P x + D := IntWalk.i64_in _ (by omega)
          go_wp2_with fail
          go_meet
          exact ⟨by simp, rfl⟩
      case rest =>
        obtain ⟨rfl, rfl⟩ := hcut
        have hd2 : 0 ≤ (if fd then D else 0) ∧ (if fd then D else 0) ≤ 5000 := by split <;> omega
        generalize (if fd then D else 0) = dd at *
        clear y1 q3
        have HLa := hide (last_ok (H4.out.below Hb8.out) few Hxe.out.le)
        have Hal := hide (fun hl => after_lt Hxe.out.le hl)
        have hge := Hxe.out.ge
        generalize hla : last P x.en = la at *
        go_wp2_with fail
        refine HLa.out.mono ?_
        rintro e w9 ⟨rfl, dn, rfl⟩
        have Hrow9 := hide (own_drewN Hrow8.out dn)
        have Hb9 := hide (below_drewN Hb8.out dn)
        have Hx9 := hide (Hx8.out.drewN dn)
        clear x1 HLa Hrow8 Hb8 Hx8
        generalize w8.drewN dn = w9 at *
        cases la with
        | true =>
          have HR := hide (And.intro (show greedy P ws (P.n + 1) fr0 0 = L ++ [x] by rw [HE.out.1, HG.out]; rfl) (show gcost P ws D (P.n + 1) fr0 0 false = C + cost P x + dd by
            rw [HE.out.2, HGC.out]
            simp
            omega))
          clear HE HG HGC hla
          go_wp2_with fail
          refine bodyPost_ret (v := .tuple #[.slice A10 (L ++ [x]).length c10, .int .i64 (C + cost P x + dd), .int .i64 0]) (by simp [results, Try.results10, go_sem]) rfl ?_
          exact ⟨A10, c10, by rw [HR.out.1, HR.out.2], by rw [HR.out.1]; exact ownsRow_less Hrow9.out hsz4, Hb4.out.trans (Hb9.out.mono hsz4)⟩
        | false =>
          obtain ⟨a1, a2, a3⟩ := Hal.out rfl
          have HR := hide (And.intro (show greedy P ws (P.n + 1) fr0 0 = (L ++ [x]) ++ greedy P ws f (after P x.en) (k + 1) by rw [HE.out.1, HG.out]; simp) (show gcost P ws D (P.n + 1) fr0 0 false = (C + cost P x + dd) + gcost P ws D f (after P x.en) (k + 1) (flag P x.en) by
            rw [HE.out.2, HGC.out]
            simp
            omega))
          clear HE HG HGC hla
          have x1 : w9.cell? ⟨gx, 1, none⟩ = some (.int .i64 x.en) := Hx9.out.cell 1
          have HAf : Hid (∀ d, Calls Try.prog 20 #[.pointer (some ⟨b, 0, none⟩), .int .i64 x.en] (w9.drewN d) fun e w' => e = .returned (.int .i64 (after P x.en)) ∧ w' = w9.drewN d) := fun d => (after_ok (H4.out.below (below_drewN Hb9.out d)) few Hxe.out.le).mono fun e w' h => ⟨h.1, h.2.symm⟩
          have HFl2 : Hid (∀ d, Calls Try.prog 21 #[.pointer (some ⟨b, 0, none⟩), .int .i64 x.en] (w9.drewN d) fun e w' => e = .returned (.bool (flag P x.en)) ∧ w' = w9.drewN d) := fun d => (flagged_ok (H4.out.below (below_drewN Hb9.out d)) Hxe.out.le).mono fun e w' h => ⟨h.1, h.2.symm⟩
          generalize flag P x.en = fx at *
          generalize after P x.en = ax at *
          go_upto_region 17 with fail
          go_quiet ((first | (go_at_call 20; with_reducible exact Calls.quiet_of_same (HAf.out _)) | (go_at_call 21; with_reducible exact Calls.quiet_of_same (HFl2.out _))))
          have hcn : -((ax : Int) * 2000000000000) ≤ C + cost P x + dd ∧ C + cost P x + dd ≤ (ax : Int) * 2000000000000 := by omega
          have hll : (L ++ [x]).length ≤ ax := by simp; omega
          go_wp2_with fail
          exact ⟨⟨L ++ [x], C + cost P x + dd, ax, k + 1, f, fx, rfl, rfl, rfl, by simp, by omega, by omega, by omega, hll, hcn, HR, (by have h := Hrow9.out; simp only [List.length_append, List.length_singleton] at h ⊢; exact h), hide (below_drewN Hb9.out _)⟩, by simp only [intOf]; omega⟩
end Go.Proofs.Ytmjhmcjlbcadaaa.Ln
