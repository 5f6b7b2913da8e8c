/- Where a line can end: plain, and the contract of (*maker).ends. -/
import Derived.Test.YtmjhmcjlbcadaaaLnCost
namespace Go.Proofs.Ytmjhmcjlbcadaaa.Ln
open Go.RowKit Go.Frm

def tooFull (x : Lin) : Bool := decide (x.nat - x.shr > x.wid)
def bareFull (P : Pts) (x : Lin) : Bool := decide (x.nat - added P x.en - x.shr > x.wid)
def pushL (x : Lin) (L : List Lin) : List Lin := if !tooFull x || L.isEmpty then L ++ [x] else L
/-- the ends from a place on -/
def endsL (P : Pts) (ws : List Int) (fr k : Nat) : Nat → Nat → List Lin → List Lin
  | 0, _, L => L
  | f + 1, q, L =>
    if may P q && (decide (fr < q) || must P q) then
      if bareFull P (line P ws fr q k) then pushL (line P ws fr q k) L
      else if must P q then pushL (line P ws fr q k) L else endsL P ws fr k f (q + 1) (pushL (line P ws fr q k) L)
    else if must P q then L else endsL P ws fr k f (q + 1) L
def ends (P : Pts) (ws : List Int) (fr k : Nat) : List Lin := endsL P ws fr k (P.n + 1 - fr) fr []
theorem endsL_bare {P : Pts} {ws : List Int} {fr k f q : Nat} {L : List Lin} (h1 : (may P q && (decide (fr < q) || must P q)) = true) (h2 : bareFull P (line P ws fr q k) = true) : endsL P ws fr k (f + 1) q L = pushL (line P ws fr q k) L := by
  unfold endsL; rw [if_pos h1, if_pos h2]
theorem endsL_stop {P : Pts} {ws : List Int} {fr k f q : Nat} {L : List Lin} (h1 : (may P q && (decide (fr < q) || must P q)) = true) (h3 : must P q = true) : endsL P ws fr k (f + 1) q L = pushL (line P ws fr q k) L := by
  unfold endsL; rw [if_pos h1]; split
  · rfl
  · first | rfl | rw [if_pos h3]
theorem endsL_on {P : Pts} {ws : List Int} {fr k f q : Nat} {L : List Lin} (h1 : (may P q && (decide (fr < q) || must P q)) = true) (h2 : bareFull P (line P ws fr q k) = false) (h3 : must P q = false) : endsL P ws fr k (f + 1) q L = endsL P ws fr k f (q + 1) (pushL (line P ws fr q k) L) := by
  rw [endsL, if_pos h1, if_neg (by rw [h2]; decide), if_neg (by rw [h3]; decide)]
theorem endsL_skip {P : Pts} {ws : List Int} {fr k f q : Nat} {L : List Lin} (h1 : (may P q && (decide (fr < q) || must P q)) = false) (h3 : must P q = false) : endsL P ws fr k (f + 1) q L = endsL P ws fr k f (q + 1) L := by
  rw [endsL, if_neg (by rw [h1]; decide), if_neg (by rw [h3]; decide)]
theorem endsL_none {P : Pts} {ws : List Int} {fr k f q : Nat} {L : List Lin} (h1 : (may P q && (decide (fr < q) || must P q)) = false) (h3 : must P q = true) : endsL P ws fr k (f + 1) q L = L := by
  rw [endsL, if_neg (by rw [h1]; decide), if_pos h3]
theorem must_n (P : Pts) : must P P.n = true := by simp [must]
theorem may_must {P : Pts} {i : Nat} (h : must P i = true) : may P i = true := by
  unfold must at h
  unfold may
  simp only [Bool.or_eq_true, beq_iff_eq, Bool.and_eq_true] at h
  by_cases hn : i = P.n
  · simp [hn]
  · rcases h with h | ⟨h1, h2⟩
    · exact absurd h hn
    · rw [if_neg hn, if_neg (by omega), if_pos h1, h2]; decide
def rowL (L : List Lin) : List Value := rowF L.length 6 fun i => linV (L.getD i ⟨0, 0, 0, 0, 0, 0⟩)
theorem rowL_push (L : List Lin) (x : Lin) : rowL (L ++ [x]) = rowL L ++ [.int .i64 x.fr, .int .i64 x.en, .int .i64 x.nat, .int .i64 x.str, .int .i64 x.shr, .int .i64 x.wid] := by
  unfold rowL
  rw [List.length_append, List.length_singleton, rowF_succ]
  congr 1
  · refine rowF_congr fun i j hi hj => ?_
    simp [List.getElem?_append_left hi]
  · simp [List.range_succ, linV]
theorem pushL_len (x : Lin) (L : List Lin) : (pushL x L).length ≤ L.length + 1 := by
  unfold pushL; split <;> simp
def Ends (L : List Lin) (w : World) (e : Ending) (w' : World) : Prop :=
  ∃ A c, e = .returned (.slice A L.length c) ∧ w'.ownsRow w.heap.size 35 6 (.slice A L.length c) L.length (rowL L) ∧ Below w.heap.size w w'
theorem lb_info : (Try.prog.info? 35).map (fun i => (i.zero, i.size, i.bytes)) = some (some (.agg #[.int .i64 0, .int .i64 0, .int .i64 0, .int .i64 0, .int .i64 0, .int .i64 0]), 6, 48) := by kernel_rfl

section
variable {w : World} {b : Nat} {P : Pts} {ws : List Int} {D : Int} {Ap Aw A2 A3 A4 A5 : Option Addr} {cp cw c2 c3 c4 c5 : Nat}
set_option maxRecDepth 100000 in
set_option maxHeartbeats 4000000 in
theorem ends_ok (h : Mk w b P ws D Ap Aw A2 A3 A4 A5 cp cw c2 c3 c4 c5) (hv : VP P) (hws : 0 < ws.length) (hw2 : ws.length ≤ 1000) (hww : ∀ x, x ∈ ws → 0 ≤ x ∧ x ≤ 400000) {fr k : Nat} (hfr : fr ≤ P.n) (hk : k ≤ 100000) :
    Calls Try.prog 22 #[.pointer (some ⟨b, 0, none⟩), .int .i64 fr, .int .i64 k] w (Ends (ends P ws fr k) w) := by
  have few := hv.few
  have Hv := hide hv
  have Hww := hide hww
  have H := hide h
  have c0 := h.c0
  clear hv hww h
  go_enter Try.func22, Try.ntmps22
  go_wp2_with fail
  go_loopw [7, 8] (fun v a wr => ∃ (q : Nat) (L : List Lin), fr ≤ q ∧ q ≤ P.n ∧ a = .int .i64 q ∧ Hid (ends P ws fr k = endsL P ws fr k (P.n + 1 - q) q L) ∧ L.length ≤ q ∧ wr.ownsRow w.heap.size 35 6 v L.length (rowL L) ∧ Below w.heap.size w wr) (fun _ a _ => P.n - (intOf a).toNat)
  case atStart => exact ⟨fr, [], Nat.le_refl _, hfr, rfl, hide rfl, by simp, World.ownsRow_nil _ _ _ _, Below.refl _ _⟩
  case round =>
    obtain ⟨q, L, h1, h2, rfl, HE, hL, hown, hbl⟩ := hrel
    obtain ⟨A7, c7, rfl⟩ := own_form hown
    have M := hide (H.out.below hbl)
    have k0 := M.out.c0
    clear c0
    have HMay := hide (may_ok M.out few h2)
    have HMu := hide (fun wx (m : Mk wx b P ws D Ap Aw A2 A3 A4 A5 cp cw c2 c3 c4 c5) => must_ok m h2)
    go_upto_region 5 with fail
    go_cut [34] (fun v wc => v = .bool (may P q && (decide (fr < q) || must P q)) ∧ Below wr.heap.size wr wc)
    case first =>
      cases hm : may P q with
      | false =>
        rw [hm] at HMay
        have Hm := hide hm
        clear hm
        go_wp2_with fail
        refine HMay.out.mono ?_
        rintro e w1 ⟨rfl, hb1⟩
        have Hb1 := hide hb1
        clear hb1
        go_wp2_with fail
        go_meet
        exact ⟨by rw [Hm.out]; rfl, Hb1.out⟩
      | true =>
        rw [hm] at HMay
        have Hm := hide hm
        clear hm
        by_cases hlt : fr < q
        · have d1 : decide (fr < q) = true := by simpa using hlt
          have hr := hide (show (may P q && (decide (fr < q) || must P q)) = true by rw [Hm.out]; simp [hlt])
          generalize must P q = mu at *
          clear hlt
          go_wp2_with fail
          refine HMay.out.mono ?_
          rintro e w1 ⟨rfl, hb1⟩
          have Hb1 := hide hb1
          clear hb1
          go_wp2_with fail
          go_meet
          exact ⟨by rw [hr.out], Hb1.out⟩
        · have d1 : decide (fr < q) = false := by simpa using hlt
          have hr := hide (show (may P q && (decide (fr < q) || must P q)) = must P q by rw [Hm.out]; simp [hlt])
          generalize must P q = mu at *
          clear hlt
          go_wp2_with fail
          refine HMay.out.mono ?_
          rintro e w1 ⟨rfl, hb1⟩
          have M1 := hide (M.out.below hb1)
          have Hb1 := hide hb1
          clear hb1
          go_wp2_with fail
          refine (HMu.out _ M1.out).mono ?_
          rintro e w2 ⟨rfl, rfl⟩
          go_wp2_with fail
          go_meet
          exact ⟨by rw [hr.out], Hb1.out⟩
    case rest =>
      obtain ⟨rfl, hb1⟩ := hcut
      have M1 := hide (M.out.below hb1)
      have own1 := own_below hown hb1
      have hbl1 := hbl.trans (hb1.mono hbl.size)
      clear hown hbl hb1 M HMay k0
      generalize hcd : (may P q && (decide (fr < q) || must P q)) = cd at *
      cases cd with
      | false =>
        have Hcd := hide hcd
        clear hcd
        cases hmu : must P q with
        | true =>
          have HR := hide (show endsL P ws fr k (P.n + 1 - q) q L = L by
            rw [show P.n + 1 - q = (P.n - q) + 1 by omega]
            exact endsL_none Hcd.out hmu)
          rw [hmu] at HMu
          clear hmu
          go_wp2_with fail
          refine (HMu.out _ M1.out).mono ?_
          rintro e w2 ⟨rfl, rfl⟩
          go_wp2_with fail
          go_ret
          exact ⟨A7, c7, by rw [HE.out, HR.out]; rfl, by rw [HE.out, HR.out]; exact own1, hbl1⟩
        | false =>
          have hqn : q < P.n := by
            rcases Nat.lt_or_ge q P.n with h | h
            · exact h
            · rw [show q = P.n by omega, must_n] at hmu; cases hmu
          have HR := hide (show endsL P ws fr k (P.n + 1 - q) q L = endsL P ws fr k (P.n + 1 - (q + 1)) (q + 1) L by
            rw [show P.n + 1 - q = (P.n + 1 - (q + 1)) + 1 by omega]
            exact endsL_skip Hcd.out hmu)
          rw [hmu] at HMu
          clear hmu
          go_wp2_with fail
          refine (HMu.out _ M1.out).mono ?_
          rintro e w2 ⟨rfl, rfl⟩
          go_wp2_with fail
          go_roundw
          case rel => exact ⟨q + 1, L, by omega, by omega, by go_num, hide (HE.out.trans HR.out), by omega, own1, hbl1⟩
          case measure => simp [intOf]; omega
      | true =>
        have Hcd := hide hcd
        clear hcd
        have HLine := hide (line_ok M1.out Hv.out h1 h2 hk hws hw2)
        have HVL := hide (line_vl Hv.out Hww.out (fr := fr) (k := k) h2)
        have HEn := hide (show (line P ws fr q k).en = q from rfl)
        have HAd := hide (fun wx (m : Mk wx b P ws D Ap Aw A2 A3 A4 A5 cp cw c2 c3 c4 c5) => added_ok m h2)
        have hab := added_bd Hv.out q
        have HTF := hide (show tooFull (line P ws fr q k) = decide ((line P ws fr q k).nat - (line P ws fr q k).shr > (line P ws fr q k).wid) from rfl)
        have HBF := hide (show bareFull P (line P ws fr q k) = decide ((line P ws fr q k).nat - added P q - (line P ws fr q k).shr > (line P ws fr q k).wid) from rfl)
        have HBare := hide (show bareFull P (line P ws fr q k) = true → endsL P ws fr k (P.n + 1 - q) q L = pushL (line P ws fr q k) L from fun hh => by
          rw [show P.n + 1 - q = (P.n - q) + 1 by omega]
          exact endsL_bare Hcd.out hh)
        have HStop := hide (show must P q = true → endsL P ws fr k (P.n + 1 - q) q L = pushL (line P ws fr q k) L from fun hh => by
          rw [show P.n + 1 - q = (P.n - q) + 1 by omega]
          exact endsL_stop Hcd.out hh)
        have HOn := hide (show q < P.n → bareFull P (line P ws fr q k) = false → must P q = false → endsL P ws fr k (P.n + 1 - q) q L = endsL P ws fr k (P.n + 1 - (q + 1)) (q + 1) (pushL (line P ws fr q k) L) from fun hq hh hu => by
          rw [show P.n + 1 - q = (P.n + 1 - (q + 1)) + 1 by omega]
          exact endsL_on Hcd.out hh hu)
        generalize line P ws fr q k = x at *
        go_wp2_with fail
        refine HLine.out.mono ?_
        rintro e w2 ⟨rfl, hb2⟩
        have M2 := hide (M1.out.below hb2)
        have own2 := own_below own1 hb2
        have hbl2 := hbl1.trans (hb2.mono hbl1.size)
        clear own1 hbl1 hb2 M1 HLine
        unfold linA
        go_upto_region 7 with fail
        have hbx := (Below.refl w2.heap.size w2).alloc (Nat.le_refl _) (.cells #[.int .i64 x.fr, .int .i64 x.en, .int .i64 x.nat, .int .i64 x.str, .int .i64 x.shr, .int .i64 x.wid] 35)
        have bx := Blk.new w2 35 #[.int .i64 x.fr, .int .i64 x.en, .int .i64 x.nat, .int .i64 x.str, .int .i64 x.shr, .int .i64 x.wid]
        have M3 := hide (M2.out.below hbx)
        have own3 := own_below own2 hbx
        have hbl3 := hbl2.trans (hbx.mono hbl2.size)
        clear own2 hbl2 hbx M2
        generalize w2.alloc (.cells #[.int .i64 x.fr, .int .i64 x.en, .int .i64 x.nat, .int .i64 x.str, .int .i64 x.shr, .int .i64 x.wid] 35) = w3 at *
        generalize w2.heap.size = g at *
        have m0 : w3.cell? ⟨g, 0, none⟩ = some (.int .i64 x.fr) := bx.cell 0
        have m1 : w3.cell? ⟨g, 1, none⟩ = some (.int .i64 x.en) := bx.cell 1
        have m2 : w3.cell? ⟨g, 2, none⟩ = some (.int .i64 x.nat) := bx.cell 2
        have m3 : w3.cell? ⟨g, 3, none⟩ = some (.int .i64 x.str) := bx.cell 3
        have m4 : w3.cell? ⟨g, 4, none⟩ = some (.int .i64 x.shr) := bx.cell 4
        have m5 : w3.cell? ⟨g, 5, none⟩ = some (.int .i64 x.wid) := bx.cell 5
        have hgl := bx.lt
        have Bx := hide bx
        clear bx
        go_cut [10, 11] (fun u v wc => u = .bool (tooFull x) ∧ v = .bool (bareFull P x) ∧ Below w3.heap.size w3 wc)
        case first =>
          have HF := hide (fun wx => full_ok x.fr x.en x.nat x.str x.shr x.wid (added P q) wx (by have := HVL.out.nat; omega) (by have := HVL.out.shr; omega) (by omega))
          have HA3 := hide (HAd.out _ (M3.out.drewN 1))
          generalize added P q = ad at *
          go_region_held3 (fun w' => w'.cell? ⟨g, 0, none⟩ = some (.int .i64 x.fr) ∧ w'.cell? ⟨g, 1, none⟩ = some (.int .i64 x.en) ∧ w'.cell? ⟨g, 2, none⟩ = some (.int .i64 x.nat) ∧ w'.cell? ⟨g, 3, none⟩ = some (.int .i64 x.str) ∧ w'.cell? ⟨g, 4, none⟩ = some (.int .i64 x.shr) ∧ w'.cell? ⟨g, 5, none⟩ = some (.int .i64 x.wid))
            (first
              | go_keep
              | exact ⟨(hb4.cell (p := ⟨g, 0, none⟩) hgl).trans m0, (hb4.cell (p := ⟨g, 1, none⟩) hgl).trans m1, (hb4.cell (p := ⟨g, 2, none⟩) hgl).trans m2, (hb4.cell (p := ⟨g, 3, none⟩) hgl).trans m3, (hb4.cell (p := ⟨g, 4, none⟩) hgl).trans m4, (hb4.cell (p := ⟨g, 5, none⟩) hgl).trans m5⟩)
              (first
                | (go_at_call 30; refine HA3.out.mono ?_; rintro e w4 ⟨rfl, rfl⟩)
                | (go_at_call 29; refine (HF.out _).mono ?_; rintro e w4 ⟨rfl, hb4⟩))
          all_goals
            go_wp2_with fail
            go_meet
            exact ⟨by rw [HTF.out], by rw [HBF.out], (below_drewN (Below.refl _ w3) 1).trans hb4⟩
        case rest =>
          obtain ⟨rfl, rfl, hb4⟩ := hcut
          have M4 := hide (M3.out.below hb4)
          have own4 := own_below own3 hb4
          have hbl4 := hbl3.trans (hb4.mono hbl3.size)
          have bx4 := Bx.out.below hb4 Bx.out.lt
          have hlen := pushL_len x L
          have HPush := hide (show pushL x L = if !tooFull x || L.isEmpty then L ++ [x] else L from rfl)
          clear HTF
          generalize tooFull x = tf at *
          clear own3 hbl3 hb4 M3 Bx m0 m1 m2 m3 m4 m5 hgl HBF
          go_upto_region 8 with fail
          go_cut [54] (fun v wd => v = .bool (!tf || L.isEmpty) ∧ wc = wd)
          case first =>
            cases tf with
            | false =>
              go_wp2_with fail
              go_meet
              exact ⟨rfl, rfl⟩
            | true =>
              by_cases hz : L.length = 0
              · have d1 : ((L.length : Int) == 0) = true := by rw [beq_iff_eq]; omega
                have hz2 := hide (show L.isEmpty = true by simpa using hz)
                clear hz
                go_wp2_with fail
                go_meet
                exact ⟨by rw [hz2.out]; rfl, rfl⟩
              · have d1 : ((L.length : Int) == 0) = false := by rw [beq_eq_false_iff_ne]; omega
                have hz2 := hide (show L.isEmpty = false by cases L <;> simp_all)
                clear hz
                go_wp2_with fail
                go_meet
                exact ⟨by rw [hz2.out]; rfl, rfl⟩
          case rest =>
            obtain ⟨rfl, rfl⟩ := hcut
            go_upto_if 54 with fail
            have m0 : wc.cell? ⟨g, 0, none⟩ = some (.int .i64 x.fr) := bx4.cell 0
            have m1 : wc.cell? ⟨g, 1, none⟩ = some (.int .i64 x.en) := bx4.cell 1
            have m2 : wc.cell? ⟨g, 2, none⟩ = some (.int .i64 x.nat) := bx4.cell 2
            have m3 : wc.cell? ⟨g, 3, none⟩ = some (.int .i64 x.str) := bx4.cell 3
            have m4 : wc.cell? ⟨g, 4, none⟩ = some (.int .i64 x.shr) := bx4.cell 4
            have m5 : wc.cell? ⟨g, 5, none⟩ = some (.int .i64 x.wid) := bx4.cell 5
            have hbs := hbl4.size
            go_cut [7] (fun v wd => ∃ A c, v = .slice A (pushL x L).length c ∧ wd.ownsRow w.heap.size 35 6 v (pushL x L).length (rowL (pushL x L)) ∧ Below w.heap.size w wd ∧ Hid (Mk wd b P ws D Ap Aw A2 A3 A4 A5 cp cw c2 c3 c4 c5))
            case first =>
              generalize hc : (!tf || L.isEmpty) = cd2 at *
              cases cd2 with
              | false =>
                have hp : pushL x L = L := by rw [HPush.out]; rfl
                have Hp := hide hp
                clear hc hp hlen
                go_wp2_with fail
                go_meet
                exact ⟨A7, c7, by rw [Hp.out], by rw [Hp.out]; exact own4, hbl4, M4⟩
              | true =>
                have hp : pushL x L = L ++ [x] := by rw [HPush.out]; rfl
                have Hp := hide hp
                clear hc hp hlen
                go_wp2_with (at_builtin; refine wpL_append rfl rfl Try.underlying29 lb_info rfl (by decide) rfl rfl (own4.alloc _) (news_at _ _ _ _ (by simp)) rfl (by simp [Value.oneCell']) (by omega) (by omega) (by simp; omega) ?_; intro v7 w7 hrow7 hgrow7)
                obtain ⟨A8, c8, rfl⟩ := own_form hrow7
                have hbl7 := below_app (hbl4.alloc hbs (.cells #[.int .i64 x.fr, .int .i64 x.en, .int .i64 x.nat, .int .i64 x.str, .int .i64 x.shr, .int .i64 x.wid] 35)) (by simp; omega) (own4.alloc _) hgrow7
                go_wp2_with fail
                go_meet
                exact ⟨A8, c8, by rw [Hp.out, List.length_append, List.length_singleton], by rw [Hp.out, List.length_append, List.length_singleton, rowL_push]; exact hrow7, hbl7, hide (H.out.below hbl7)⟩
            case rest =>
              obtain ⟨A8, c8, rfl, own5, hbl5, M5⟩ := hcut
              clear own4 hbl4 bx4 m0 m1 m2 m3 m4 m5 hbs M4
              generalize hbf : bareFull P x = bf at *
              cases bf with
              | true =>
                have HR := hide (HBare.out rfl)
                clear hbf
                go_wp2_with fail
                go_ret
                exact ⟨A8, c8, by rw [HE.out, HR.out]; rfl, by rw [HE.out, HR.out]; exact own5, hbl5⟩
              | false =>
                clear hbf
                generalize hmu : must P q = mu at *
                cases mu with
                | true =>
                  have HR := hide (HStop.out rfl)
                  have HMu2 := hide (HMu.out _ M5.out)
                  clear hmu
                  go_wp2_with fail
                  refine HMu2.out.mono ?_
                  rintro e w9 ⟨rfl, rfl⟩
                  go_wp2_with fail
                  go_ret
                  exact ⟨A8, c8, by rw [HE.out, HR.out]; rfl, by rw [HE.out, HR.out]; exact own5, hbl5⟩
                | false =>
                  have hqn : q < P.n := by
                    rcases Nat.lt_or_ge q P.n with h | h
                    · exact h
                    · rw [show q = P.n by omega, must_n] at hmu; cases hmu
                  have HR := hide (HOn.out hqn rfl rfl)
                  have HMu2 := hide (HMu.out _ M5.out)
                  clear hmu
                  go_wp2_with fail
                  refine HMu2.out.mono ?_
                  rintro e w9 ⟨rfl, rfl⟩
                  go_wp2_with fail
                  go_roundw
                  case rel => exact ⟨q + 1, pushL x L, by omega, by omega, by go_num, hide (HE.out.trans HR.out), by omega, own5, hbl5⟩
                  case measure => simp [intOf]; omega
end
end Go.Proofs.Ytmjhmcjlbcadaaa.Ln
