/- The contract of (*para).sequences. -/
import Derived.Test.YtdikfldogmbeaaaDoorBdSeqMem
import Derived.Test.YtdikfldogmbeaaaDoorSink
import Derived.Deep.CutBlock
import Derived.Deep.AppendLies
namespace Go.Proofs.YtdikfldogmbeaaaDoor.Bd
open Go.RowKit Go.Frm

set_option maxRecDepth 100000 in
set_option maxHeartbeats 8000000 in
theorem sequences_ok (G gw : Nat) (At : Option Addr) (ct n gc gl : Nat) (base : Int) (go gm : Nat) (O : Nat → Bool) (C L M W : Nat → Int) (w : World) (hp : Blk w G 44 (paC At ct n gc gl base go (.slice (some ⟨gm, 0, none⟩) n n))) (hO : BB w go n O) (hL : BI w gl n L) (hM : BI w gm n M) (hC : BI w gc n C) (hW : RdI w (some ⟨gw, 0, none⟩) (tab n W)) (hwc : gw ≠ gc) (hn : n ≤ 100000) (hMo : MOk M n)
    (hlb : ∀ i, i < n → 0 ≤ L i ∧ L i ≤ 1000) (hb : 0 ≤ base ∧ base ≤ 1) :
    Calls Tryd.prog 21 #[.pointer (some ⟨G, 0, none⟩), .slice (some ⟨gw, 0, none⟩) n n] w fun e w' =>
      ∃ v sB ga ca, e = .returned v ∧ SM w' w.heap.size G gw n (sqFull M (rn O L n) W L O base n) (begs M (rn O L n) (rn O L n).m) v sB ga ca ∧ Below w.heap.size w w' := by
  have HC := hide hC
  have HW := hide hW
  have Hwc := hide hwc
  have Hlb := hide hlb
  have Hb := hide hb
  clear hC hW hwc hlb hb
  have HP := hide hp
  have HO := hide hO
  have HL := hide hL
  have HM := hide hM
  have Hmo := hide hMo
  have p0 : w.cell? ⟨G, 0, none⟩ = some (.slice At n ct) := hp.cell 0
  have hG := hp.lt
  clear hp hO hL hM hMo
  go_enter Tryd.func21, Tryd.ntmps21
  go_upto_block 0 with fail
  go_cut [5] (fun v wc => ∃ Af cf, RM wc w.heap.size (rn O L n) v Af cf ∧ Below w.heap.size w wc)
  case first => as_aux_lemma =>
    go_wp2_with fail
    go_loopw [5, 25] (fun v a wr => ∃ (k : Nat) (Af : Nat → Option Addr) (cf : Nat → Nat), k ≤ n ∧ a = .int .i64 k ∧ RM wr w.heap.size (rn O L k) v Af cf ∧ Below w.heap.size w wr) (fun _ a _ => n - (intOf a).toNat)
    case atStart => exact ⟨0, fun _ => none, fun _ => 0, Nat.zero_le _, rfl, ⟨World.ownsRow_nil _ _ _ _, fun k hk => absurd hk (by simp [rn])⟩, Below.refl _ _⟩
    case round =>
      obtain ⟨k, Af, cf, hk, rfl, hrm, hbl⟩ := hrel
      by_cases hlt : k < n
      · have Hk := hide (rn_ok O L k)
        have Hst := hide (show rn O L (k + 1) = rnStep O L k (rn O L k) from rfl)
        generalize rn O L k = r at *
        have hwr : wr.heap.size ≥ w.heap.size := hbl.size
        have p2 : wr.cell? ⟨G, 2, none⟩ = some (.slice (some ⟨gl, 0, none⟩) n n) := (hbl.cell (p := ⟨G, 2, none⟩) hG).trans (HP.out.cell 2)
        have p4 : wr.cell? ⟨G, 4, none⟩ = some (.slice (some ⟨go, 0, none⟩) n n) := (hbl.cell (p := ⟨G, 4, none⟩) hG).trans (HP.out.cell 4)
        have hGr : G < wr.heap.size := by omega
        have co : wr.cell? ⟨go, k, none⟩ = some (.bool (O k)) := (hbl.cell (p := ⟨go, k, none⟩) HO.out.lt).trans (HO.out.cell hlt)
        have cl : wr.cell? ⟨gl, k, none⟩ = some (.int .i64 (L k)) := (hbl.cell (p := ⟨gl, k, none⟩) HL.out.lt).trans (HL.out.cell hlt)
        cases hok : O k with
        | true =>
          rw [hok] at co
          have hst : Hid (rn O L (k + 1) = r) := hide (Hst.out.trans (by unfold rnStep; rw [if_pos hok]))
          go_wp2_with fail
          go_roundw
          case rel => exact ⟨k + 1, Af, cf, by omega, by go_num, by rw [hst.out]; exact hrm, hbl⟩
          case measure => simp [intOf]; omega
        | false =>
          rw [hok] at co
          obtain ⟨Ao, cc, rfl⟩ := own_form hrm.outr
          obtain ⟨tb, Htb⟩ : ∃ x : Bool, Hid (x = (decide (0 < r.m) && L (r.R (r.m - 1) 0) == L k)) := ⟨_, rfl⟩
          have hst : Hid (rn O L (k + 1) = if tb = true then ⟨upd r.R (r.m - 1) (upd (r.R (r.m - 1)) (r.len (r.m - 1)) k), upd r.len (r.m - 1) (r.len (r.m - 1) + 1), r.m⟩ else ⟨upd r.R r.m (fun _ => k), upd r.len r.m 1, r.m + 1⟩) := hide (Hst.out.trans (by
            unfold rnStep
            rw [if_neg (by rw [hok]; decide), Htb.out]))
          have hmi := Hk.out.mi
          go_upto_region 7 with fail
          go_cut [61] (fun v wc => v = .bool tb ∧ ∃ d, wc = wr.drewN d)
          case first => as_aux_lemma =>
            by_cases hm0 : r.m = 0
            · have hx : Hid (tb = false) := hide (by rw [Htb.out, hm0]; rfl)
              have d0 : decide (0 < r.m) = false := by rw [hm0]; rfl
              have d1 : decide (0 < (r.m : Int)) = false := by rw [hm0]; rfl
              clear Htb
              go_quiet (fail)
              go_wp2_with fail
              go_meet
              exact ⟨by rw [hx.out], _, rfl⟩
            · have hm1 : 0 < r.m := by omega
              have hx : Hid (tb = (L (r.R (r.m - 1) 0) == L k)) := hide (by rw [Htb.out, decide_eq_true hm1]; rfl)
              have d0 : decide (0 < r.m) = true := decide_eq_true hm1
              have d1 : decide (0 < (r.m : Int)) = true := by simp; omega
              obtain ⟨g, rfl, hgB⟩ := own_at hrm.outr hm1
              have hin := hrm.inn (r.m - 1) (by omega)
              have hlen := (Hk.out.len (r.m - 1) (by omega)).1
              have hRk := Hk.out.lt (r.m - 1) 0 (by omega) (by omega)
              obtain ⟨gi, hAi, hgi⟩ := own_at hin hlen
              have cg := own_cell hrm.outr (j := r.m - 1) (by omega)
              rw [hAi] at hin cg
              have ci := own_cell hin (j := 0) (by omega)
              have cL : wr.cell? ⟨gl, r.R (r.m - 1) 0, none⟩ = some (.int .i64 (L (r.R (r.m - 1) 0))) := (hbl.cell (p := ⟨gl, r.R (r.m - 1) 0, none⟩) HL.out.lt).trans (HL.out.cell (by omega))
              have i1 : (r.m : Int) - 1 = ((r.m - 1 : Nat) : Int) := by omega
              have i2 : r.m - 1 < r.m := by omega
              have i3 : ((r.m - 1 : Nat) : Int) < (r.m : Int) := by omega
              have qk : IntKind.i64.wrap ((r.m - 1 : Nat) : Int) = ((r.m - 1 : Nat) : Int) := IntWalk.i64_in _ (by omega)
              have hRn : r.R (r.m - 1) 0 < n := by omega
              generalize r.R (r.m - 1) 0 = rr at *
              clear Htb
              go_quiet (fail)
              go_wp2_with fail
              go_meet
              exact ⟨by rw [hx.out], _, rfl⟩
          case rest =>
            obtain ⟨rfl, d, rfl⟩ := hcut
            have hrmd := hrm.drewN d
            have hbld := below_drewN hbl d
            cases tb with
            | true =>
              have hst2 : Hid (rn O L (k + 1) = ⟨upd r.R (r.m - 1) (upd (r.R (r.m - 1)) (r.len (r.m - 1)) k), upd r.len (r.m - 1) (r.len (r.m - 1) + 1), r.m⟩) := hide hst.out
              have hm1 : 0 < r.m := by
                rcases Nat.eq_zero_or_pos r.m with h0 | h0
                · have := Htb.out
                  rw [h0] at this
                  cases this
                · exact h0
              obtain ⟨g, rfl, hgB⟩ := own_at hrm.outr hm1
              have hin := hrmd.inn (r.m - 1) (by omega)
              have hlen := Hk.out.len (r.m - 1) (by omega)
              have cg := own_cell hrm.outr (j := r.m - 1) (by omega)
              have i1 : (r.m : Int) - 1 = ((r.m - 1 : Nat) : Int) := by omega
              have i3 : ((r.m - 1 : Nat) : Int) < (r.m : Int) := by omega
              have hne := own_ne hrmd.outr hin (by decide)
              clear Htb
              go_wp2_with (at_builtin; refine wpL_append rfl rfl Tryd.underlying22 int_info rfl (by decide) rfl rfl (hin.alloc _) (news_at _ _ _ _ (by simp)) rfl (by simp [Value.oneCell']) (by omega) (by omega) (by simp; omega) ?_; intro v3 w3 hown3 hgrow3; obtain ⟨A3, c3, rfl⟩ := own_form hown3; have ho3 := (hrmd.outr.alloc (.cells #[.int .i64 (k : Int)] 3)).kept hgrow3 hne; have cg3 := own_cell ho3 (j := r.m - 1) (by omega); have fg3 := World.ownsRow.frozenAt ho3 (r.m - 1))
              go_roundw
              case rel =>
                obtain ⟨Af', cf', hr'⟩ := RM.grow Hk.out (hrmd.alloc _) hm1 hgrow3 hown3
                exact ⟨k + 1, Af', cf', by omega, by go_num, by rw [hst2.out]; exact hr', (below_app (hbld.alloc hbld.size _) (by have := hbld.size; simp; omega) (hin.alloc _) hgrow3).setCell (p := ⟨g, r.m - 1, none⟩) hgB _⟩
              case measure => simp [intOf]; omega
            | false =>
              have hst2 : Hid (rn O L (k + 1) = ⟨upd r.R r.m (fun _ => k), upd r.len r.m 1, r.m + 1⟩) := hide hst.out
              have hnew := (World.ownsRow_lit (e := 3) (base := w.heap.size) (size := 1) (wr.drewN d) #[.int .i64 (k : Int)] 1 hbld.size (by decide) rfl).alloc (.cells #[.slice (some ⟨(wr.drewN d).heap.size, 0, none⟩) 1 1] 22)
              go_wp2_with (at_builtin; refine wpL_append rfl rfl Tryd.underlying52 ints_info rfl (by decide) rfl rfl ((hrmd.outr.alloc _).alloc _) (news_at _ _ _ _ (by simp)) rfl (by simp [Value.oneCell']) (by omega) (by omega) (by simp; omega) ?_; intro v3 w3 hown3 hgrow3)
              go_roundw
              case rel =>
                obtain ⟨Af', cf', hr'⟩ := RM.begin ((hrmd.alloc _).alloc _) hbld.size hnew hgrow3 hown3
                exact ⟨k + 1, Af', cf', by omega, by go_num, by rw [hst2.out]; exact hr', below_app ((hbld.alloc hbld.size _).alloc (by have := hbld.size; simp; omega) _) (by have := hbld.size; simp; omega) ((hrmd.outr.alloc _).alloc _) hgrow3⟩
              case measure => simp [intOf]; omega
      · obtain rfl : k = n := by omega
        go_wp2_with fail
        go_meet
        exact ⟨Af, cf, hrm, hbl⟩
  case rest =>
    obtain ⟨wa, rfl⟩ : ∃ wo : World, wo = wc := ⟨_, rfl⟩
    obtain ⟨Af, cf, hrm, hbl⟩ := hcut
    have Hk := hide (rn_ok O L n)
    obtain ⟨r, Hr⟩ : ∃ r, Hid (r = rn O L n) := ⟨_, rfl⟩
    rw [← Hr.out] at hrm Hk
    obtain ⟨A5, c5, rfl⟩ := own_form hrm.outr
    have hmn : r.m ≤ n := Hk.out.mi
    have hwa := hbl.size
    have q0 : wa.cell? ⟨G, 0, none⟩ = some (.slice At n ct) := (hbl.cell (p := ⟨G, 0, none⟩) hG).trans p0
    have hGc : G < wa.heap.size := by omega
    have hmk := make_ints n hn n rfl
    have hmb := make_bools r.m (by omega) r.m rfl
    go_upto_block 2 with fail
    have hb2 : BI ((wa.alloc (.cells (madeCells #[.int .i64 0] n) 3)).alloc (.cells (madeCells #[.bool false] r.m) 4)) wa.heap.size n (fun x => (runAt r 0 x : Int)) := (BI.new wa n).blk.alloc _
    have hf2 : BB ((wa.alloc (.cells (madeCells #[.int .i64 0] n) 3)).alloc (.cells (madeCells #[.bool false] r.m) 4)) (wa.heap.size + 1) r.m (folS M r 0) := by
      have h := BB.new (wa.alloc (.cells (madeCells #[.int .i64 0] n) 3)) r.m
      rwa [hsz_alloc] at h
    have hbl2 : Below wa.heap.size wa ((wa.alloc (.cells (madeCells #[.int .i64 0] n) 3)).alloc (.cells (madeCells #[.bool false] r.m) 4)) := ((Below.refl _ _).alloc (Nat.le_refl _) _).alloc (by simp) _
    generalize (wa.alloc (.cells (madeCells #[.int .i64 0] n) 3)).alloc (.cells (madeCells #[.bool false] r.m) 4) = w2 at *
    clear hmk hmb
    obtain ⟨gr, Hgr⟩ : ∃ g, Hid (g = wa.heap.size) := ⟨_, rfl⟩
    rw [← Hgr.out] at hb2 hf2
    rw [← Hgr.out]
    go_cut [] (fun wd => BI wd gr n (fun x => (runAt r r.m x : Int)) ∧ BB wd (gr + 1) r.m (folS M r 0) ∧ Below wa.heap.size wa wd)
    case first => as_aux_lemma =>
      go_wp2_with fail
      go_loopw [91] (fun a wr => ∃ k : Nat, k ≤ r.m ∧ a = .int .i64 k ∧ BI wr gr n (fun x => (runAt r k x : Int)) ∧ BB wr (gr + 1) r.m (folS M r 0) ∧ Below wa.heap.size wa wr) (fun a _ => r.m - (intOf a).toNat)
      case atStart => exact ⟨0, Nat.zero_le _, rfl, hb2, hf2, hbl2⟩
      case round =>
        clear hb2 hf2 hbl2
        obtain ⟨k, hk, rfl, hbr, hfr, hbx⟩ := hrel
        by_cases hlt : k < r.m
        · have hrmx := hrm.below hbx
          obtain ⟨g, rfl, hgB⟩ := own_at hrmx.outr (by omega)
          have hlen := Hk.out.len k hlt
          have hin := hrmx.inn k hlt
          obtain ⟨gi, hAi, hgi⟩ := own_at hin hlen.1
          have cg := own_cell hrmx.outr (j := k) hlt
          rw [hAi] at hin cg
          have ci := own_cell hin (j := 0) (by omega)
          have hRn := Hk.out.lt k 0 hlt (by omega)
          have cr := hbr.cell hRn
          have fr := hbr.frozen (r.R k 0)
          have Hs := hide (hbr.set (r.R k 0) ((k : Int) + 1))
          have lim : k ≤ 100000 := by omega
          have hl0 : 0 < r.len k := by omega
          have Hrun := hide (show runAt r (k + 1) = upd (runAt r k) (r.R k 0) (k + 1) from rfl)
          generalize r.R k 0 = rr at *
          go_wp2_with fail
          go_roundw
          case rel => exact ⟨k + 1, by omega, by go_num, Hs.out.congr (fun x _ => by
            rw [Hrun.out]
            unfold upd
            split <;> rfl), hfr.blk.far (p := ⟨gr, rr, none⟩) (by show gr + 1 ≠ gr; omega) _, hbx.setCell (p := ⟨gr, rr, none⟩) (by rw [Hgr.out]; exact Nat.le_refl _) _⟩
          case measure => simp [intOf]; omega
        · obtain rfl : k = r.m := by omega
          go_wp2_with fail
          go_meet
          exact ⟨hbr, hfr, hbx⟩
    case rest =>
      obtain ⟨wb, rfl⟩ : ∃ wo : World, wo = wc := ⟨_, rfl⟩
      obtain ⟨hbr, hf3, hbl3⟩ := hcut
      clear hb2 hf2 hbl2
      go_upto_block 4 with fail
      go_cut [] (fun we => BB we (gr + 1) r.m (folS M r r.m) ∧ BI we gr n (fun x => (runAt r r.m x : Int)) ∧ Below wa.heap.size wa we)
      case first => as_aux_lemma =>
        go_wp2_with fail
        go_loopw [106] (fun a wr => ∃ k : Nat, k ≤ r.m ∧ a = .int .i64 k ∧ BB wr (gr + 1) r.m (folS M r k) ∧ BI wr gr n (fun x => (runAt r r.m x : Int)) ∧ Below wa.heap.size wa wr) (fun a _ => r.m - (intOf a).toNat)
        case atStart => exact ⟨0, Nat.zero_le _, rfl, hf3, hbr, hbl3⟩
        case round =>
          clear hf3 hbr hbl3
          obtain ⟨k, hk, rfl, hfr, hbr, hbx⟩ := hrel
          by_cases hlt : k < r.m
          · have hrmx := hrm.below hbx
            obtain ⟨g, rfl, hgB⟩ := own_at hrmx.outr (by omega)
            have hlen := Hk.out.len k hlt
            have hin := hrmx.inn k hlt
            obtain ⟨gi, hAi, hgi⟩ := own_at hin hlen.1
            have cg := own_cell hrmx.outr (j := k) hlt
            rw [hAi] at hin cg
            have hl1 : r.len k - 1 < r.len k := by omega
            have ci : wr.cell? ⟨gi, r.len k - 1, none⟩ = some (.int .i64 ((lastOf r k : Nat) : Int)) := own_cell hin (j := r.len k - 1) hl1
            have hLl := Hk.out.last_lt hlt
            have q5 : wr.cell? ⟨G, 5, none⟩ = some (.slice (some ⟨gm, 0, none⟩) n n) := (hbx.cell (p := ⟨G, 5, none⟩) hGc).trans ((hbl.cell (p := ⟨G, 5, none⟩) hG).trans (HP.out.cell 5))
            have hgm : gm < wa.heap.size := Nat.lt_of_lt_of_le HM.out.lt hwa
            have cm : wr.cell? ⟨gm, lastOf r k, none⟩ = some (.int .i64 (M (lastOf r k))) := (hbx.cell (p := ⟨gm, lastOf r k, none⟩) hgm).trans ((hbl.cell (p := ⟨gm, lastOf r k, none⟩) HM.out.lt).trans (HM.out.cell hLl))
            have i1 : ((r.len k : Nat) : Int) - 1 = ((r.len k - 1 : Nat) : Int) := by omega
            have i3 : ((r.len k - 1 : Nat) : Int) < (r.len k : Int) := by omega
            have Hfol := hide (show folS M r (k + 1) = if 0 < nextRun M r k then upd (folS M r k) (nextRun M r k - 1) true else folS M r k from rfl)
            have Hnx := hide (show nextRun M r k = if M (lastOf r k) < 0 then 0 else runAt r r.m (M (lastOf r k)).toNat from rfl)
            have Hns := hide (nextRun_spec Hk.out Hmo.out hlt)
            have Hmx := hide (Hmo.out _ hLl)
            have hszr := hbx.size
            generalize lastOf r k = la at *
            generalize M la = x at *
            by_cases hx : x < 0
            · have hfol : Hid (folS M r (k + 1) = folS M r k) := hide (by rw [Hfol.out, Hnx.out, if_pos hx, if_neg (by omega)])
              clear Hfol
              go_upto_region 22 with fail
              go_region
              go_wp2_with fail
              go_roundw
              case rel => exact ⟨k + 1, by omega, by go_num, by rw [hfol.out]; exact hfr.blk.drewN 1, hbr.blk.drewN 1, below_drewN hbx 1⟩
              case measure => simp [intOf]; omega
            · obtain ⟨x1, rfl⟩ : ∃ m : Nat, x = m := ⟨x.toNat, by omega⟩
              have hxn : x1 < n := by rcases Hmx.out with h | h <;> omega
              have cr := hbr.cell hxn
              have hnx : Hid (nextRun M r k = runAt r r.m x1) := hide (by rw [Hnx.out, if_neg hx, Int.toNat_natCast])
              have hnr : runAt r r.m x1 ≤ r.m := by rw [← hnx.out]; exact Hns.out.1
              rw [hnx.out] at Hfol
              clear Hns Hnx hnx
              generalize runAt r r.m x1 = tt at *
              by_cases ht : tt = 0
              · subst ht
                have hfol : Hid (folS M r (k + 1) = folS M r k) := hide (by rw [Hfol.out, if_neg (by omega)])
                clear Hfol
                go_upto_region 22 with fail
                go_region
                go_wp2_with fail
                go_roundw
                case rel => exact ⟨k + 1, by omega, by go_num, by rw [hfol.out]; exact hfr.blk.drewN 1, hbr.blk.drewN 1, below_drewN hbx 1⟩
                case measure => simp [intOf]; omega
              · have hfol : Hid (folS M r (k + 1) = upd (folS M r k) (tt - 1) true) := hide (by rw [Hfol.out, if_pos (by omega)])
                clear Hfol
                have i4 : ((tt : Nat) : Int) - 1 = ((tt - 1 : Nat) : Int) := by omega
                have i5 : tt - 1 < r.m := by omega
                have cf2 := hfr.cell i5
                have ff := hfr.frozen (tt - 1)
                have Hset := hide (hfr.set (tt - 1) true)
                have lim : tt ≤ 100000 := by omega
                go_upto_region 22 with fail
                go_region
                go_wp2_with fail
                go_roundw
                case rel => exact ⟨k + 1, by omega, by go_num, by rw [hfol.out]; exact Hset.out.blk.drewN 1, (hbr.blk.drewN 1).far (p := ⟨gr + 1, tt - 1, none⟩) (by show gr ≠ gr + 1; omega) _, (below_drewN hbx 1).setCell (p := ⟨gr + 1, tt - 1, none⟩) (by rw [Hgr.out]; exact Nat.le_succ _) _⟩
                case measure => simp [intOf]; omega
          · obtain rfl : k = r.m := by omega
            go_wp2_with fail
            go_meet
            exact ⟨hfr, hbr, hbx⟩
      case rest =>
        obtain ⟨we, rfl⟩ : ∃ wo : World, wo = wc := ⟨_, rfl⟩
        obtain ⟨hfw, hrw, hbw⟩ := hcut
        clear hf3 hbr hbl3
        have hrme := hrm.below hbw
        have hbA := hbl.trans (hbw.mono hbl.size)
        have hws := hbA.size
        have HPe := hide ((HP.out.below hbA hG))
        have HMe := hide (HM.out.blk.below hbA HM.out.lt)
        have HLe := hide (HL.out.blk.below hbA HL.out.lt)
        clear hrm hbw q0
        go_wp2_with fail
        go_loopw [15, 141] (fun v a wr => ∃ (k : Nat) (sB ga ca : Nat → Nat), k ≤ r.m ∧ a = .int .i64 k ∧ SM wr we.heap.size G gw n (sqFull M r W L O base n) (begs M r k) v sB ga ca ∧ Below we.heap.size we wr) (fun _ a _ => r.m - (intOf a).toNat)
        case atStart => exact ⟨0, fun _ => 0, fun _ => 0, fun _ => 0, Nat.zero_le _, rfl, SM.nil _ _ _ _ _ _ _ _ _, Below.refl _ _⟩
        case round =>
          obtain ⟨wo, rfl⟩ : ∃ wo : World, wo = wr := ⟨_, rfl⟩
          obtain ⟨k, sB, ga, ca, hk, rfl, hsm, hbx⟩ := hrel
          obtain ⟨A6, c6, rfl⟩ := own_form hsm.row
          by_cases hlt : k < r.m
          · have hfx : BB wo (gr + 1) r.m (folS M r r.m) := hfw.below hbx hfw.lt
            have cfk := hfx.cell hlt
            cases hf : folS M r r.m k with
            | true =>
              rw [hf] at cfk
              go_wp2_with fail
              go_roundw
              case rel => exact ⟨k + 1, sB, ga, ca, by omega, by go_num, by rw [begs_skip hf]; exact hsm, hbx⟩
              case measure => simp [intOf]; omega
            | false =>
              rw [hf] at cfk
              have hrmx := hrme.below hbx
              have hrx : BI wo gr n (fun x => (runAt r r.m x : Int)) := hrw.below hbx hrw.lt
              have hpx : Blk wo G 44 (paC At ct n gc gl base go (.slice (some ⟨gm, 0, none⟩) n n)) := HPe.out.below hbx HPe.out.lt
              have hmx : BI wo gm n M := Blk.below HMe.out hbx (Blk.lt HMe.out)
              have hlx : BI wo gl n L := Blk.below HLe.out hbx (Blk.lt HLe.out)
              have hszx := hbx.size
              have hbW := hbA.trans (hbx.mono hws)
              have HCx := hide (Blk.below HC.out hbW (Blk.lt HC.out))
              have HWx := hide (HW.out.below hbW)
              have HOx := hide (Blk.below HO.out hbW (Blk.lt HO.out))
              have Hbx := hide hbx
              clear hbx hbW
              have hlen := Hk.out.len k hlt
              obtain ⟨g, rfl, hgB⟩ := own_at hrmx.outr (by omega)
              have hin := hrmx.inn k hlt
              obtain ⟨gi, hAi, hgi⟩ := own_at hin hlen.1
              have cg := own_cell hrmx.outr (j := k) hlt
              rw [hAi] at hin cg
              have ci := own_cell hin (j := 0) hlen.1
              have hR0 : r.R k 0 < n := Hk.out.lt k 0 hlt hlen.1
              have cL := hlx.cell hR0
              have c2 : wo.cell? ⟨G, 2, none⟩ = some (.slice (some ⟨gl, 0, none⟩) n n) := hpx.cell 2
              have hl0 : 0 < r.len k := hlen.1
              have hGo : G < wo.heap.size := hpx.lt
              obtain ⟨lv, Hlv⟩ : ∃ z, Hid (z = L (r.R k 0)) := ⟨_, rfl⟩
              rw [← Hlv.out] at cL
              have HR0 := hide hR0
              obtain ⟨h0, Hh0⟩ : ∃ z, Hid (z = r.R k 0) := ⟨_, rfl⟩
              rw [← Hh0.out] at cL ci hR0
              go_upto_region 30 with fail
              go_region
              go_upto_block 8 with fail
              have hbs : Blk ((wo.alloc (.cells #[.pointer (some ⟨G, 0, none⟩), .slice none 0 0, .slice (some ⟨gw, 0, none⟩) n n, .int .i64 lv, .int .i64 0, .int .i64 0] 65)).drew) wo.heap.size 65 #[.pointer (some ⟨G, 0, none⟩), .slice none 0 0, .slice (some ⟨gw, 0, none⟩) n n, .int .i64 lv, .int .i64 0, .int .i64 0] := Blk.new _ _ _
              have hb2 : Below wo.heap.size wo ((wo.alloc (.cells #[.pointer (some ⟨G, 0, none⟩), .slice none 0 0, .slice (some ⟨gw, 0, none⟩) n n, .int .i64 lv, .int .i64 0, .int .i64 0] 65)).drew) := below_drewN ((Below.refl _ _).alloc (Nat.le_refl _) _) 1
              have Hz2 : Hid (((wo.alloc (.cells #[.pointer (some ⟨G, 0, none⟩), .slice none 0 0, .slice (some ⟨gw, 0, none⟩) n n, .int .i64 lv, .int .i64 0, .int .i64 0] 65)).drew).heap.size = wo.heap.size + 1) := hide (hsz_alloc wo _)
              generalize (wo.alloc (.cells #[.pointer (some ⟨G, 0, none⟩), .slice none 0 0, .slice (some ⟨gw, 0, none⟩) n n, .int .i64 lv, .int .i64 0, .int .i64 0] 65)).drew = w2 at *
              obtain ⟨sN, HsN⟩ : ∃ s, Hid (s = wo.heap.size) := ⟨_, rfl⟩
              rw [← HsN.out] at hbs hb2 Hz2
              rw [← HsN.out]
              clear cg ci cL c2 hin hAi hgi cfk
              have Hq1 : Hid (∀ (wx : World) (g1 c1 : Nat), Blk wx sN 65 #[.pointer (some ⟨G, 0, none⟩), .slice (some ⟨g1, 0, none⟩) (seqAt M r k).n c1, .slice (some ⟨gw, 0, none⟩) n n, .int .i64 lv, .int .i64 0, .int .i64 0] → Blk wx sN 65 (sqC G g1 (sqOf M r W L k) c1 gw n)) := hide (fun wx g1 c1 h => by rw [Hlv.out] at h; exact h)
              obtain ⟨ak, Hak⟩ : ∃ x, Hid (x = seqAt M r k) := ⟨_, rfl⟩
              rw [← Hak.out] at Hq1
              obtain ⟨qk, Hqk⟩ : ∃ x, Hid (x = sqOf M r W L k) := ⟨_, rfl⟩
              rw [← Hqk.out] at Hq1
              go_cut [] (fun wc => ∃ g1 c1, Blk wc sN 65 (sqC G g1 qk c1 gw n) ∧ wc.ownsRow (sN + 1) 3 1 (.slice (some ⟨g1, 0, none⟩) ak.n c1) ak.n (tabV ak.n fun j => .int .i64 (ak.A j : Nat)) ∧ AtOk ak n ∧ 0 < ak.n ∧ Below sN wo wc)
              case first => as_aux_lemma =>
                obtain ⟨i0, hj0, hz0, hz1, hz2⟩ := info_parts int_info
                go_wp2_with fail
                go_loopw [18] (fun jv wr2 => ∃ (j f : Nat) (a : Bd.At) (Aa : Option Addr) (c : Nat), jv = .int .i64 j ∧ j < r.m ∧ r.m ≤ f + j ∧ AtOk a (r.R j 0) ∧ Hid (chainA M r f j a = ak) ∧ Blk wr2 sN 65 #[.pointer (some ⟨G, 0, none⟩), .slice Aa a.n c, .slice (some ⟨gw, 0, none⟩) n n, .int .i64 lv, .int .i64 0, .int .i64 0] ∧ wr2.ownsRow (sN + 1) 3 1 (.slice Aa a.n c) a.n (tabV a.n fun i => .int .i64 (a.A i : Nat)) ∧ Below sN wo wr2) (fun jv _ => r.m - (intOf jv).toNat)
                case atStart => exact ⟨k, r.m, ⟨fun _ => 0, 0⟩, none, 0, rfl, hlt, by omega, ⟨fun j hj => absurd hj (by simp), fun j hj => absurd hj (by simp)⟩, hide Hak.out.symm, hbs, World.ownsRow_nil _ _ _ _, hb2⟩
                case round =>
                  obtain ⟨wr2, rfl⟩ : ∃ wx : World, wx = wr := ⟨_, rfl⟩
                  clear hbs hb2 Hz2
                  obtain ⟨j, f, a, Aa, c, rfl, hjm, hfj, hat0, Hch, hsb, hown, hbi⟩ := hrel
                  have hrm2 := hrmx.below (show Below wo.heap.size wo wr2 by rw [← HsN.out]; exact hbi)
                  have hbo : Below wo.heap.size wo wr2 := by rw [← HsN.out]; exact hbi
                  have hrx2 : BI wr2 gr n (fun x => (runAt r r.m x : Int)) := hrx.below hbo hrx.lt
                  have hpx2 : Blk wr2 G 44 (paC At ct n gc gl base go (.slice (some ⟨gm, 0, none⟩) n n)) := hpx.below hbo hpx.lt
                  have hmx2 : BI wr2 gm n M := hmx.blk.below hbo hmx.lt
                  have hbl1 : g < sN := by rw [HsN.out]; exact World.block_lt_of_cell? _ _ (own_cell hrmx.outr (j := k) hlt)
                  have hbl2 : gr < sN ∧ G < sN ∧ gm < sN := by rw [HsN.out]; exact ⟨hrx.lt, hpx.lt, hmx.lt⟩
                  have hs2 : sN + 1 ≤ wr2.heap.size := by have := hsb.lt; omega
                  have hlj := Hk.out.len j hjm
                  have hinj := hrm2.inn j hjm
                  obtain ⟨gi, hAi, hgi⟩ := own_at hinj hlj.1
                  have m1 := own_cell hrm2.outr (j := j) hjm
                  rw [hAi] at hinj m1
                  have hin := hinj
                  have hl1 : r.len j - 1 < r.len j := by omega
                  have ci : wr2.cell? ⟨gi, r.len j - 1, none⟩ = some (.int .i64 ((lastOf r j : Nat) : Int)) := own_cell hinj (j := r.len j - 1) hl1
                  have hgis : gi < sN := by
                    have hinw := hrmx.inn j hjm
                    rw [hAi] at hinw
                    rw [HsN.out]; exact World.block_lt_of_cell? _ _ (own_cell hinw (j := 0) hlj.1)
                  have m0 : wr2.cell? ⟨sN, 1, none⟩ = some (.slice Aa a.n c) := hsb.cell 1
                  have hLl := Hk.out.last_lt hjm
                  have hcn := hat0.cnt
                  have hR0 : r.R j 0 < n := Hk.out.lt j 0 hjm hlj.1
                  have Hat := hide (hat0.add Hk.out hjm)
                  have Htab := hide (atAdd_tab r j a)
                  have Hchn := hide (show atAdd r j a = ⟨(atAdd r j a).A, a.n + r.len j⟩ from rfl)
                  have Hgro : Hid (∀ (wx wy : World), wx.grownBy wy (Value.slice Aa a.n c).ownBlock → wx.cell? ⟨sN, 1, none⟩ = some (.slice Aa a.n c) ∧ wx.cell? ⟨g, j, none⟩ = some (.slice (some ⟨gi, 0, none⟩) (r.len j) (cf j)) → wy.cell? ⟨sN, 1, none⟩ = some (.slice Aa a.n c) ∧ wy.cell? ⟨g, j, none⟩ = some (.slice (some ⟨gi, 0, none⟩) (r.len j) (cf j))) := hide fun wx wy hg ⟨h1, h2⟩ =>
                    ⟨hg.cell h1 (own_not_low hown (Nat.lt_succ_self sN)), hg.cell h2 (own_not_low hown (show g < sN + 1 by omega))⟩
                  have Hat0 := hide hat0
                  clear hat0
                  go_upto_region 32 with fail
                  refine wp_region_sink (S := fun w' : World => w'.cell? ⟨sN, 1, none⟩ = some (.slice Aa a.n c) ∧ w'.cell? ⟨g, j, none⟩ = some (.slice (some ⟨gi, 0, none⟩) (r.len j) (cf j))) 12 (by kernel_rfl) (by kernel_rfl) (by kernel_rfl) (by kernel_rfl) ?hSq (fun hHeld => ?_)
                  case hSq => exact ⟨m0, m1⟩
                  simp only [List.take_succ_cons, List.take_zero]
                  refine wpAnyH_take (i := 0) (v := ?vqn0) rfl (by kernel_rfl) (by kernel_rfl) (by kernel_rfl) (fun _ _ _ h => h) (Or.inl ⟨by rfl, ?hyqn0⟩) (by assumption) ?_
                  case hyqn0 => (intro w hSw; (try dsimp only at hSw); go_simp; try with_reducible rfl)
                  try simp only [Act.put, List.getElem_toArray, List.getElem_cons_zero, List.getElem_cons_succ, List.setIfInBounds_toArray, List.set_cons_zero, List.set_cons_succ]
                  refine wpAnyH_take (i := 1) (v := ?vqn1) rfl (by kernel_rfl) (by kernel_rfl) (by kernel_rfl) (fun _ _ _ h => h) (Or.inl ⟨by rfl, ?hyqn1⟩) (by assumption) ?_
                  case hyqn1 => (intro w hSw; (try dsimp only at hSw); go_simp; try with_reducible rfl)
                  try simp only [Act.put, List.getElem_toArray, List.getElem_cons_zero, List.getElem_cons_succ, List.setIfInBounds_toArray, List.set_cons_zero, List.set_cons_succ]
                  refine wpAnyH_take (i := 2) (v := ?vqn2) rfl (by kernel_rfl) (by kernel_rfl) (by kernel_rfl) (fun _ _ _ h => h) (Or.inl ⟨by rfl, ?hyqn2⟩) (by assumption) ?_
                  case hyqn2 => (intro w hSw; (try dsimp only at hSw); go_simp; try with_reducible rfl)
                  try simp only [Act.put, List.getElem_toArray, List.getElem_cons_zero, List.getElem_cons_succ, List.setIfInBounds_toArray, List.set_cons_zero, List.set_cons_succ]
                  refine wpAnyH_take (i := 3) (v := ?vqn3) rfl (by kernel_rfl) (by kernel_rfl) (by kernel_rfl) (fun _ _ _ h => h) (Or.inl ⟨by rfl, ?hyqn3⟩) (by assumption) ?_
                  case hyqn3 => (intro w hSw; (try dsimp only at hSw); go_simp; try with_reducible rfl)
                  try simp only [Act.put, List.getElem_toArray, List.getElem_cons_zero, List.getElem_cons_succ, List.setIfInBounds_toArray, List.set_cons_zero, List.set_cons_succ]
                  refine wpAnyH_take (i := 4) (v := ?vqn4) rfl (by kernel_rfl) (by kernel_rfl) (by kernel_rfl) (fun _ _ _ h => h) (Or.inl ⟨by rfl, ?hyqn4⟩) (by assumption) ?_
                  case hyqn4 => (intro w hSw; (try dsimp only at hSw); go_simp; try with_reducible rfl)
                  try simp only [Act.put, List.getElem_toArray, List.getElem_cons_zero, List.getElem_cons_succ, List.setIfInBounds_toArray, List.set_cons_zero, List.set_cons_succ]
                  refine wpAnyH_take (i := 5) (v := ?vqn5) rfl (by kernel_rfl) (by kernel_rfl) (by kernel_rfl) (fun _ _ _ h => h) (Or.inl ⟨by rfl, ?hyqn5⟩) (by assumption) ?_
                  case hyqn5 => (intro w hSw; (try dsimp only at hSw); go_simp; try with_reducible rfl)
                  try simp only [Act.put, List.getElem_toArray, List.getElem_cons_zero, List.getElem_cons_succ, List.setIfInBounds_toArray, List.set_cons_zero, List.set_cons_succ]
                  refine wpAnyH_take (i := 6) (v := ?vqn6) rfl (by kernel_rfl) (by kernel_rfl) (by kernel_rfl) (fun _ _ _ h => h) (Or.inl ⟨by rfl, ?hyqn6⟩) (by assumption) ?_
                  case hyqn6 => (intro w hSw; (try dsimp only at hSw); go_simp; try with_reducible rfl)
                  try simp only [Act.put, List.getElem_toArray, List.getElem_cons_zero, List.getElem_cons_succ, List.setIfInBounds_toArray, List.set_cons_zero, List.set_cons_succ]
                  refine wpAnyH_take (i := 7) (v := ?vqn7) rfl (by kernel_rfl) (by kernel_rfl) (by kernel_rfl) (fun _ _ _ h => h) (Or.inl ⟨by rfl, ?hyqn7⟩) (by assumption) ?_
                  case hyqn7 => (intro w hSw; (try dsimp only at hSw); go_simp; try with_reducible rfl)
                  try simp only [Act.put, List.getElem_toArray, List.getElem_cons_zero, List.getElem_cons_succ, List.setIfInBounds_toArray, List.set_cons_zero, List.set_cons_succ]
                  refine wpAnyH_take (i := 8) (v := ?vqn8) rfl (by kernel_rfl) (by kernel_rfl) (by kernel_rfl) (fun _ _ _ h => h) (Or.inl ⟨by rfl, ?hyqn8⟩) (by assumption) ?_
                  case hyqn8 => (intro w hSw; (try dsimp only at hSw); go_simp; try with_reducible rfl)
                  try simp only [Act.put, List.getElem_toArray, List.getElem_cons_zero, List.getElem_cons_succ, List.setIfInBounds_toArray, List.set_cons_zero, List.set_cons_succ]
                  refine wpAnyH_ready (rs := [9]) (by kernel_rfl) (by simp) (AllReadyH.cons rfl (fun K hK => ?_) AllReadyH.nil)
                  refine step_append_lies _ (by rfl) _ _ _ (by rfl) (sN + 1) 3 i0 _ 1 8 Tryd.underlying22 hj0 hz0 hz1 hz2 rfl (by omega) (.slice Aa a.n c) a.n (tabV a.n fun j => .int .i64 (a.A j : Nat)) (by rfl) (own_drewN hown 1) ⟨gi, 0, none⟩ (r.len j) (cf j) (tabV (r.len j) fun i => .int .i64 (r.R j i : Nat)) (by rfl) (by rw [tabV_length]; omega) (fun i u hu => hin.cells (g := gi) rfl i u hu) (by intro u hu; simp [tabV] at hu; obtain ⟨x, _, rfl⟩ := hu; rfl) (by omega) (by unfold maxLen; omega) (by omega) (by show sN + 1 ≤ wr2.heap.size; omega) wr2.heap.size rfl ?_
                  intro gg cap w6 hown6 hgrow hat hlt6
                  have hb6 := (hsb.drewN 1).app (own_drewN hown 1) (Nat.lt_succ_self sN) hgrow
                  have m6 : w6.cell? ⟨sN, 1, none⟩ = some (.slice Aa a.n c) := hb6.cell 1
                  have z6 := hb6.frozen 1
                  have hl6 := below_app (below_drewN hbi 1) (show sN ≤ wr2.heap.size by omega) (ownsRow_less (own_drewN hown 1) (Nat.le_succ sN)) hgrow
                  refine hK.out _ _ ?hkqn9 (fun hHeld => ?_)
                  case hkqn9 => exact Hgro.out _ _ hgrow hHeld
                  clear hK K
                  try simp only [Act.put, List.getElem_toArray, List.getElem_cons_zero, List.getElem_cons_succ, List.setIfInBounds_toArray, List.set_cons_zero, List.set_cons_succ]
                  refine wpAnyH_take (i := 10) (v := ?vqn10) rfl (by kernel_rfl) (by kernel_rfl) (by kernel_rfl) (fun _ _ _ h => h) (Or.inl ⟨by rfl, ?hyqn10⟩) (by assumption) ?_
                  case hyqn10 => (intro w hSw; (try dsimp only at hSw); go_simp; try with_reducible rfl)
                  try simp only [Act.put, List.getElem_toArray, List.getElem_cons_zero, List.getElem_cons_succ, List.setIfInBounds_toArray, List.set_cons_zero, List.set_cons_succ]
                  refine wpAnyH_take (i := 11) (v := ?vqn11) rfl (by kernel_rfl) (by kernel_rfl) (by kernel_rfl) (fun _ _ _ h => h) (Or.inl ⟨by rfl, ?hyqn11⟩) (by assumption) ?_
                  case hyqn11 => (intro w hSw; (try dsimp only at hSw); go_simp; try with_reducible rfl)
                  try simp only [Act.put, List.getElem_toArray, List.getElem_cons_zero, List.getElem_cons_succ, List.setIfInBounds_toArray, List.set_cons_zero, List.set_cons_succ]
                  refine wpAnyH_done (by kernel_rfl) ?_ _
                  refine sink_run rfl rfl ?_
                  go_simp
                  all_goals
                    have hb9 : Blk (w6.setCell ⟨sN, 1, none⟩ (.slice (some ⟨gg, 0, none⟩) (a.n + r.len j) cap)) sN 65 #[.pointer (some ⟨G, 0, none⟩), .slice (some ⟨gg, 0, none⟩) (a.n + r.len j) cap, .slice (some ⟨gw, 0, none⟩) n n, .int .i64 lv, .int .i64 0, .int .i64 0] := hb6.set_ 1 (.slice (some ⟨gg, 0, none⟩) (a.n + r.len j) cap)
                    have ho9 := own_setCell_low hown6 (a := ⟨sN, 1, none⟩) (Nat.lt_succ_self sN) (.slice (some ⟨gg, 0, none⟩) (a.n + r.len j) cap)
                    have hl9 := hl6.setCell (p := ⟨sN, 1, none⟩) (Nat.le_refl sN) (.slice (some ⟨gg, 0, none⟩) (a.n + r.len j) cap)
                    have Htn : Hid ((atAdd r j a).n = a.n + r.len j) := hide rfl
                    have ho10 : (w6.setCell ⟨sN, 1, none⟩ (.slice (some ⟨gg, 0, none⟩) (a.n + r.len j) cap)).ownsRow (sN + 1) 3 1 (.slice (some ⟨gg, 0, none⟩) (a.n + r.len j) cap) (a.n + r.len j) (tabV (a.n + r.len j) fun i => .int .i64 ((atAdd r j a).A i : Nat)) := by rw [Htab.out]; exact ho9
                    clear ho9 hb6 hown6 hl6 hgrow m6 z6 m0 m1 ci hrm2 hrx2 hpx2 hmx2 hinj hin Hgro hown hsb hbi hbo hs2 hat hHeld
                    generalize w6.setCell ⟨sN, 1, none⟩ (.slice (some ⟨gg, 0, none⟩) (a.n + r.len j) cap) = w9 at *
                    have hbo9 : Below wo.heap.size wo w9 := by rw [← HsN.out]; exact hl9
                    have hrm9 := hrmx.below hbo9
                    have hr9 : BI w9 gr n (fun x => (runAt r r.m x : Int)) := hrx.below hbo9 hrx.lt
                    have q5 : w9.cell? ⟨G, 5, none⟩ = some (.slice (some ⟨gm, 0, none⟩) n n) := (hbo9.cell (p := ⟨G, 5, none⟩) hpx.lt).trans (hpx.cell 5)
                    have cm : w9.cell? ⟨gm, lastOf r j, none⟩ = some (.int .i64 (M (lastOf r j))) := (hbo9.cell (p := ⟨gm, lastOf r j, none⟩) hmx.lt).trans (hmx.cell hLl)
                    have cg9 := own_cell hrm9.outr (j := j) hjm
                    have hin9 := hrm9.inn j hjm
                    rw [hAi] at cg9 hin9
                    have ci9 : w9.cell? ⟨gi, r.len j - 1, none⟩ = some (.int .i64 ((lastOf r j : Nat) : Int)) := own_cell hin9 (j := r.len j - 1) hl1
                    have i1 : ((r.len j : Nat) : Int) - 1 = ((r.len j - 1 : Nat) : Int) := by omega
                    have i3 : ((r.len j - 1 : Nat) : Int) < (r.len j : Int) := by omega
                    have Hnx := hide (show nextRun M r j = if M (lastOf r j) < 0 then 0 else runAt r r.m (M (lastOf r j)).toNat from rfl)
                    have Hns := hide (nextRun_spec Hk.out Hmo.out hjm)
                    have Hmx := hide (Hmo.out _ hLl)
                    have Hbd := hide (Hat.out.mono (show lastOf r j + 1 ≤ n by omega))
                    obtain ⟨f, rfl⟩ : ∃ f1, f = f1 + 1 := ⟨f - 1, by omega⟩
                    have Hch2 := hide (show (if nextRun M r j = 0 then atAdd r j a else chainA M r f (nextRun M r j - 1) (atAdd r j a)) = ak from Hch.out)
                    clear Hch hin9 hrm9 Htab
                    have hnpos : 0 < a.n + r.len j := by omega
                    generalize atAdd r j a = a2 at *
                    generalize lastOf r j = la at *
                    generalize M la = x at *
                    by_cases hx : x < 0
                    · have hak : Hid (a2 = ak) := hide (by have := Hch2.out; rw [Hnx.out, if_pos hx, if_pos rfl] at this; exact this)
                      clear Hch2
                      go_upto_region 34 with fail
                      go_region
                      go_wp2_with fail
                      go_meet
                      have hn2 : ak.n = a.n + r.len j := by rw [← hak.out]; exact Htn.out
                      exact ⟨gg, cap, Hq1.out _ gg cap (by rw [hn2]; exact hb9.drewN 1), by rw [hn2, ← hak.out]; exact own_drewN ho10 1, by rw [← hak.out]; exact Hbd.out, by omega, below_drewN hl9 1⟩
                    · obtain ⟨x1, rfl⟩ : ∃ m : Nat, x = m := ⟨x.toNat, by omega⟩
                      have hxn : x1 < n := by rcases Hmx.out with h | h <;> omega
                      have cr := hr9.cell hxn
                      have hnx : Hid (nextRun M r j = runAt r r.m x1) := hide (by rw [Hnx.out, if_neg hx, Int.toNat_natCast])
                      rw [hnx.out] at Hns Hch2
                      clear Hnx hnx
                      generalize runAt r r.m x1 = tt at *
                      have htm : tt ≤ r.m := Hns.out.1
                      by_cases ht : tt = 0
                      · subst ht
                        have hak : Hid (a2 = ak) := hide (by have := Hch2.out; rwa [if_pos rfl] at this)
                        clear Hch2
                        go_upto_region 34 with fail
                        go_region
                        go_wp2_with fail
                        go_meet
                        have hn2 : ak.n = a.n + r.len j := by rw [← hak.out]; exact Htn.out
                        exact ⟨gg, cap, Hq1.out _ gg cap (by rw [hn2]; exact hb9.drewN 1), by rw [hn2, ← hak.out]; exact own_drewN ho10 1, by rw [← hak.out]; exact Hbd.out, by omega, below_drewN hl9 1⟩
                      · have hak : Hid (chainA M r f (tt - 1) a2 = ak) := hide (by have := Hch2.out; rwa [if_neg ht] at this)
                        clear Hch2
                        have i4 : ((tt : Nat) : Int) - 1 = ((tt - 1 : Nat) : Int) := by omega
                        have lim : tt ≤ 100000 := by omega
                        have hns : j + 1 < tt ∧ la < r.R (tt - 1) 0 := Hns.out.2 (by omega)
                        have i6 : ((tt : Int) == 0) = false := by simp; omega
                        have i7 : ¬ (tt : Int) = 0 := by omega
                        go_upto_region 34 with fail
                        go_region
                        go_wp2_with fail
                        go_roundw
                        case rel =>
                          exact ⟨tt - 1, f, a2, some ⟨gg, 0, none⟩, cap, by go_num, by omega, by omega, Hat.out.mono (by omega), hak, by rw [Htn.out]; exact hb9.drewN 1, by rw [Htn.out]; exact own_drewN ho10 1, below_drewN hl9 1⟩
                        case measure => simp [intOf]; omega
              case rest =>
                obtain ⟨wz, rfl⟩ : ∃ wx : World, wx = wc := ⟨_, rfl⟩
                clear hbs hb2 Hz2
                obtain ⟨g1, c1, hsq, hoq, hatq, hnq, hbq⟩ := hcut
                have hboz : Below wo.heap.size wo wz := by rw [← HsN.out]; exact hbq
                have hqn : qk.n = ak.n := by rw [Hqk.out, Hak.out]; rfl
                have hqA : qk.A = ak.A := by rw [Hqk.out, Hak.out]; rfl
                have hqW : qk.W = W := by rw [Hqk.out]; rfl
                have hql : qk.lv = L (r.R k 0) := by rw [Hqk.out]; rfl
                have hcx : gc < sN := by rw [HsN.out]; exact Blk.lt HCx.out
                have hg1 : sN + 1 ≤ g1 := by
                  obtain ⟨g2, e2, h2⟩ := own_at hoq hnq
                  injection e2 with e2
                  injection e2 with e2
                  omega
                have hcnt := hatq.cnt
                have HQ : QM wz sN G g1 c1 gw qk At ct n gc gl base go (.slice (some ⟨gm, 0, none⟩) n n) C := ⟨hsq, hpx.below hboz hpx.lt, by rw [hqn, hqA]; exact own_ints hoq, by rw [hqW]; exact HWx.out.below hboz, Blk.below HCx.out hboz (Blk.lt HCx.out), fun i hi => by rw [hqA]; exact hatq.lt i (by omega), ⟨by omega, Hwc.out⟩⟩
                have Hbo := hide (borders_ok HQ O L M (Blk.below HOx.out hboz (Blk.lt HOx.out)) (hlx.blk.below hboz hlx.lt) (hmx.blk.below hboz hmx.lt) hn (by omega) (by omega) Hlb.out Hb.out (by rw [hql]; exact Hlb.out _ HR0.out))
                have hfull : ({ qk with bg := bgOf qk O L base, en := enOf qk O L M base n } : Sq) = sqFull M r W L O base n k := by rw [Hqk.out]; rfl
                rw [hfull] at Hbo
                have hsz : sN ≤ wz.heap.size := by rw [HsN.out]; exact hboz.size
                have hsN2 : we.heap.size ≤ sN := by rw [HsN.out]; exact hszx
                have hks : (begs M r k).length ≤ k := Nat.le_trans (List.length_filter_le _ _) (by simp)
                clear hqW hql
                go_wp2_with fail
                refine Hbo.out.mono ?_
                rintro e8 w8 ⟨rfl, hb8, hg8⟩
                have hb8s : Below sN wo w8 := hbq.trans (hg8.to_below (by omega) (fun x hx => Nat.le_of_eq (show x = sN from hx).symm))
                have hbo8 : Below wo.heap.size wo w8 := by rw [← HsN.out]; exact hb8s
                have hsm8 := hsm.below hbo8
                have hoq8 := own_chg hoq hg8 (fun x hx => by have : x = sN := hx; omega)
                have hbw8 : Below we.heap.size we w8 := Hbx.out.trans (hbo8.mono hszx)
                have hs8 : we.heap.size ≤ w8.heap.size := hbw8.size
                have Hq8 : Hid ((sqFull M r W L O base n k).n = ak.n ∧ (sqFull M r W L O base n k).A = ak.A) := hide (by rw [Hak.out]; exact ⟨rfl, rfl⟩)
                clear Hbo HQ hg8 hbo8 hqn hqA hfull
                go_wp2_with (at_builtin; refine wpL_append rfl rfl Tryd.underlying45 seqp_info rfl (by decide) rfl rfl (hsm8.row.alloc _) (news_at _ _ _ _ (by simp)) rfl (by simp [Value.oneCell']) (by omega) (by omega) (by simp; omega) ?_; intro v3 w3 hown3 hgrow3)
                go_roundw
                case rel =>
                  refine ⟨k + 1, upd sB k sN, upd ga k g1, upd ca k c1, by omega, by go_num, ?_, ?_⟩
                  · rw [begs_take hf]
                    exact (hsm8.alloc _).push (fun h => absurd (begs_lt h) (Nat.lt_irrefl _)) (by omega) (hb8.alloc _) (by rw [Hq8.out.1, Hq8.out.2]; exact ownsRow_less (hoq8.alloc _) (by omega)) hgrow3 hown3
                  · exact below_app (hbw8.alloc hs8 _) (by simp; omega) (hsm8.row.alloc _) hgrow3
                case measure => simp [intOf]; omega
          · obtain rfl : k = r.m := by omega
            go_wp2_with fail
            go_ret
            rw [← Hr.out]
            exact ⟨_, sB, ga, ca, rfl, hsm.less hws, hbA.trans (hbx.mono hws)⟩
end Go.Proofs.YtdikfldogmbeaaaDoor.Bd
