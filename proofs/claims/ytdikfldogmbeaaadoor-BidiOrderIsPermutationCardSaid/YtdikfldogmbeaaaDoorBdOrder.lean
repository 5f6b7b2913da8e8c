/- The contract of package bidi: Order. -/
import Derived.Test.YtdikfldogmbeaaaDoorBdMem
import Derived.Test.YtdikfldogmbeaaaDoorListed
import Derived.Deep.CutBlock
namespace Go.Proofs.YtdikfldogmbeaaaDoor.Bd
open Go.RowKit Go.Frm

theorem mx_eq (a b : Int) : (if a < b then b else a) = mx a b := by unfold mx; split <;> split <;> omega
theorem most_bd (L : Nat → Int) : ∀ n, (∀ i, i < n → 0 ≤ L i ∧ L i ≤ 126) → 0 ≤ most L n ∧ most L n ≤ 126
  | 0, _ => by simp [most]
  | n + 1, h => by
    have h1 := most_bd L n (fun i hi => h i (by omega))
    have h2 := h n (by omega)
    unfold most mx
    split <;> omega
theorem segEnd_bd (L : Nat → Int) (x : Int) : ∀ r k, k ≤ segEnd L x r k ∧ segEnd L x r k ≤ k + r
  | 0, k => ⟨Nat.le_refl _, Nat.le_refl _⟩
  | r + 1, k => by
    unfold segEnd
    split
    · have := segEnd_bd L x r (k + 1); omega
    · omega
/-- a stretch of which s places are exchanged at each end -/
def revP (i tz s : Nat) (o : Nat → Nat) (j : Nat) : Nat := if (i ≤ j ∧ j < i + s) ∨ (tz ≤ j + s ∧ j < tz) then o (i + tz - 1 - j) else o j
theorem revP_zero (i tz : Nat) (o : Nat → Nat) (j : Nat) : o j = revP i tz 0 o j := by unfold revP; rw [if_neg (by omega)]
theorem revP_step {i tz s : Nat} (o : Nat → Nat) (h : i + s < tz - 1 - s) (j : Nat) : upd (upd (revP i tz s o) (i + s) (revP i tz s o (tz - 1 - s))) (tz - 1 - s) (revP i tz s o (i + s)) j = revP i tz (s + 1) o j := by
  unfold upd
  by_cases h1 : j = tz - 1 - s
  · rw [if_pos h1]
    unfold revP
    rw [if_neg (by omega), if_pos (by omega)]
    congr 1
    omega
  · rw [if_neg h1]
    by_cases h2 : j = i + s
    · rw [if_pos h2]
      unfold revP
      rw [if_neg (by omega), if_pos (by omega)]
      congr 1
      omega
    · rw [if_neg h2]
      unfold revP
      by_cases h3 : (i ≤ j ∧ j < i + s) ∨ (tz ≤ j + s ∧ j < tz)
      · rw [if_pos h3, if_pos (by omega)]
      · rw [if_neg h3, if_neg (by omega)]
theorem revP_end {i tz s : Nat} (o : Nat → Nat) (h1 : i + 2 * s ≤ tz) (h2 : i < tz) (h : ¬ i + s < tz - 1 - s) (j : Nat) : revP i tz s o j = rev i tz o j := by
  unfold revP rev
  by_cases h3 : i ≤ j ∧ j < tz
  · rw [if_pos h3]
    by_cases h4 : (i ≤ j ∧ j < i + s) ∨ (tz ≤ j + s ∧ j < tz)
    · rw [if_pos h4]
    · rw [if_neg h4]
      congr 1
      omega
  · rw [if_neg h3, if_neg (by omega)]

/-- places as numbers -/
def BN (w : World) (g n : Nat) (O : Nat → Nat) : Prop := BI w g n fun j => (O j : Int)
theorem BN.bi {w : World} {g n : Nat} {O : Nat → Nat} (h : BN w g n O) : BI w g n fun j => (O j : Int) := h
theorem BN.congr {w : World} {g n : Nat} {O O' : Nat → Nat} (h : BN w g n O) (e : ∀ j, j < n → O j = O' j) : BN w g n O' := h.bi.congr (fun j hj => by rw [e j hj])
theorem BN.set {w : World} {g n : Nat} {O : Nat → Nat} (h : BN w g n O) (j x : Nat) : BN (w.setCell ⟨g, j, none⟩ (.int .i64 x)) g n (upd O j x) := (h.bi.set j x).congr (fun i _ => by unfold upd; split <;> rfl)

set_option maxRecDepth 100000 in
set_option maxHeartbeats 8000000 in
theorem order_ok (A : Option Addr) (cp n : Nat) (L : Nat → Int) (w : World) (hr : RdI w A (tab n L)) (hn : n ≤ 100000) (hL : ∀ i, i < n → 0 ≤ L i ∧ L i ≤ 126) :
    Calls Tryd.prog 13 #[.slice A n cp] w fun e w' => ∃ g, e = .returned (.tuple #[.slice (some ⟨g, 0, none⟩) n n, .int .i64 0]) ∧ w.heap.size ≤ g ∧ BN w' g n (order L n) ∧ Below w.heap.size w w' := by
  obtain ⟨R, HR⟩ : ∃ R, Hid (R = order L n) := ⟨_, rfl⟩
  rw [← HR.out]
  have HL := hide hL
  have HRd := hide hr
  have hmk := make_ints n hn n rfl
  have hb0 := BI.new w n
  have hbel0 : Below w.heap.size w (w.alloc (.cells (madeCells #[.int .i64 0] n) 3)) := (Below.refl _ _).alloc (Nat.le_refl _) _
  clear hL hr
  go_enter Tryd.func13, Tryd.ntmps13
  go_upto_region 5 with fail
  generalize w.alloc (.cells (madeCells #[.int .i64 0] n) 3) = w1 at *
  clear hmk
  go_upto_block 0 with fail
  obtain ⟨g, Hg⟩ : ∃ g, Hid (g = w.heap.size) := ⟨_, rfl⟩
  rw [← Hg.out] at hb0
  rw [← Hg.out]
  go_cut [4] (fun v wc => v = .int .i64 (most L n) ∧ BN wc g n (fun j => j) ∧ Below w.heap.size w wc)
  case first => as_aux_lemma =>
    go_wp2_with fail
    go_loopw [4, 20] (fun m a wr => ∃ k : Nat, k ≤ n ∧ a = .int .i64 k ∧ m = .int .i64 (most L k) ∧ BI wr g n (fun j => if j < k then (j : Int) else 0) ∧ Below w.heap.size w wr) (fun _ a _ => n - (intOf a).toNat)
    case atStart => exact ⟨0, Nat.zero_le _, rfl, rfl, hb0.congr (fun i _ => by simp), hbel0⟩
    case round =>
      clear hb0 hbel0
      obtain ⟨k, hk, rfl, rfl, hbi, hbl⟩ := hrel
      by_cases hlt : k < n
      · obtain ⟨b, off, rfl, c0⟩ := (HRd.out.below hbl).at_ (k := k) (by rw [tab_length]; exact hlt)
        rw [tab_ix _ hlt] at c0
        have hLk := HL.out k hlt
        have cg := hbi.cell hlt
        have fg := hbi.frozen k
        have Hm := hide (show most L (k + 1) = mx (most L k) (L k) from rfl)
        have Hbi := hide hbi
        have hgl : w.heap.size ≤ g := by rw [Hg.out]; exact Nat.le_refl _
        generalize L k = v at *
        generalize most L k = u at *
        go_wp2_with fail
        go_roundw
        case rel => exact ⟨k + 1, by omega, by go_num, by rw [Hm.out, ← mx_eq], (Hbi.out.set k k).congr (fun i _ => by
          unfold upd
          by_cases hik : i = k
          · rw [if_pos hik, if_pos (by omega), hik]
          · rw [if_neg hik]
            show (if i < k then (i : Int) else 0) = _
            by_cases h2 : i < k
            · rw [if_pos h2, if_pos (by omega)]
            · rw [if_neg h2, if_neg (by omega)]), hbl.setCell (p := ⟨g, k, none⟩) hgl _⟩
        case measure => simp [intOf]; omega
      · obtain rfl : k = n := by omega
        go_wp2_with fail
        go_meet
        exact ⟨rfl, hbi.congr (fun i hi => by simp [hi]), hbl⟩
  case rest =>
    obtain ⟨rfl, hbn, hbl1⟩ := hcut
    have hmb := most_bd L n (fun i hi => HL.out i hi)
    obtain ⟨m0, hm0⟩ : ∃ m : Nat, most L n = (m : Int) := ⟨(most L n).toNat, by omega⟩
    have HR1 : Hid (R = ordS L n m0 fun j => j) := hide (HR.out.trans (by unfold order; rw [hm0]; rfl))
    have hm1 : m0 ≤ 126 := by omega
    rw [hm0]
    clear hm0 hmb hb0 hbel0
    have hgl : w.heap.size ≤ g := by rw [Hg.out]; exact Nat.le_refl _
    go_wp2_with fail
    go_loopw [4] (fun a wr => ∃ (x : Nat) (O : Nat → Nat), x ≤ 126 ∧ a = .int .i64 x ∧ Hid (R = ordS L n x O) ∧ BN wr g n O ∧ Below w.heap.size w wr) (fun a _ => (intOf a).toNat)
    case atStart => exact ⟨m0, _, hm1, rfl, HR1, hbn, hbl1⟩
    case round =>
      clear hbn hbl1 HR1
      obtain ⟨x, O, hx, rfl, HO, hbn, hbl⟩ := hrel
      cases x with
      | zero =>
        have hR2 : Hid (R = O) := hide HO.out
        go_wp2_with fail
        go_ret2
        exact ⟨g, rfl, hgl, by rw [hR2.out]; exact hbn, hbl⟩
      | succ x =>
        obtain ⟨Q, HQ⟩ : ∃ Q, Hid (Q = revs L n ((x + 1 : Nat) : Int) n 0 O) := ⟨_, rfl⟩
        have hR2 : Hid (R = ordS L n x Q) := hide (HO.out.trans (by rw [HQ.out]; rfl))
        obtain ⟨X, HX⟩ : ∃ X : Int, Hid (X = ((x + 1 : Nat) : Int)) := ⟨_, rfl⟩
        rw [← HX.out] at HQ
        rw [← HX.out]
        have hXp : 0 < X := by rw [HX.out]; omega
        have hXb : X ≤ 126 := by rw [HX.out]; omega
        go_wp2_with fail
        go_loopw [8] (fun a wx => ∃ (i f : Nat) (P : Nat → Nat), i ≤ n + 1 ∧ n - i ≤ f ∧ a = .int .i64 i ∧ Hid (Q = revs L n X f i P) ∧ BN wx g n P ∧ Below w.heap.size w wx) (fun a _ => n + 1 - (intOf a).toNat)
        case atStart => exact ⟨0, n, O, by omega, by omega, rfl, HQ, hbn, hbl⟩
        case round =>
          obtain ⟨i, f, P, hi, hf, rfl, HP, hbp, hbx⟩ := hrel
          by_cases hlt : i < n
          · cases f with
            | zero => exact absurd hf (by omega)
            | succ f =>
              have hst := hide (HP.out.trans (show revs L n X (f + 1) i P = if L i < X then revs L n X f (i + 1) P else revs L n X f (segEnd L X (n - i) i + 1) (rev i (segEnd L X (n - i) i) P) by
                show (if n ≤ i then P else _) = _
                rw [if_neg (by omega)]))
              obtain ⟨b, off, rfl, c0⟩ := (HRd.out.below hbx).at_ (k := i) (by rw [tab_length]; exact hlt)
              rw [tab_ix _ hlt] at c0
              have Hrd2 := hide (HRd.out.below hbx)
              have hLi := HL.out i hlt
              by_cases hc : L i < X
              · have hst2 : Hid (Q = revs L n X f (i + 1) P) := hide (hst.out.trans (if_pos hc))
                generalize L i = v at *
                go_wp2_with fail
                go_roundw
                case rel => exact ⟨i + 1, f, P, by omega, by omega, by go_num, hst2, hbp, hbx⟩
                case measure => simp [intOf]; omega
              · obtain ⟨tz, Htz⟩ : ∃ t, Hid (t = segEnd L X (n - i) i) := ⟨_, rfl⟩
                have hst2 : Hid (Q = revs L n X f (tz + 1) (rev i tz P)) := hide (by rw [Htz.out]; exact hst.out.trans (if_neg hc))
                have hup := hide (show tz = segEnd L X (n - (i + 1)) (i + 1) by
                  rw [Htz.out, show n - i = (n - (i + 1)) + 1 by omega]
                  show (if X ≤ L i then _ else _) = _
                  rw [if_pos (by omega)])
                have hsb := segEnd_bd L X (n - (i + 1)) (i + 1)
                rw [← hup.out] at hsb
                have hb1 : i + 1 ≤ tz := hsb.1
                have hb2 : tz ≤ n := by omega
                have hc2 : decide (L i < X) = false := decide_eq_false hc
                clear hsb
                go_upto_block 6 with fail
                go_cut [9] (fun v wc => v = .int .i64 tz ∧ wc = wr)
                case first => as_aux_lemma =>
                  go_wp2_with fail
                  go_loopw [9] (fun a wy => ∃ t : Nat, i ≤ t ∧ t ≤ n ∧ a = .int .i64 t ∧ Hid (tz = segEnd L X (n - t) t) ∧ wy = wr) (fun a _ => n - (intOf a).toNat)
                  case atStart => exact ⟨i, Nat.le_refl _, by omega, rfl, Htz, rfl⟩
                  case round =>
                    obtain ⟨t, ht1, ht2, rfl, HT, rfl⟩ := hrel
                    by_cases htl : t < n
                    · have ct := Hrd2.out.get (k := t) (by rw [tab_length]; exact htl)
                      rw [tab_ix _ htl] at ct
                      have hT := hide (HT.out.trans (show segEnd L X (n - t) t = if X ≤ L t then segEnd L X (n - (t + 1)) (t + 1) else t by
                        rw [show n - t = (n - (t + 1)) + 1 by omega]
                        rfl))
                      generalize L t = u at *
                      by_cases hu : X ≤ u
                      · have hT2 : Hid (tz = segEnd L X (n - (t + 1)) (t + 1)) := hide (hT.out.trans (if_pos hu))
                        go_wp2_with fail
                        go_roundw
                        case rel => exact ⟨t + 1, by omega, by omega, by go_num, hT2, by first | rfl | trivial⟩
                        case measure => simp [intOf]; omega
                      · have hT2 : Hid (tz = t) := hide (hT.out.trans (if_neg hu))
                        have hu2 : u < X := by omega
                        go_wp2_with fail
                        go_meet
                        exact ⟨by rw [hT2.out], by first | rfl | trivial⟩
                    · obtain rfl : t = n := by omega
                      have hT2 : Hid (tz = t) := hide (by rw [HT.out, Nat.sub_self]; rfl)
                      go_wp2_with fail
                      go_meet
                      exact ⟨by rw [hT2.out], by first | rfl | trivial⟩
                case rest =>
                  obtain ⟨rfl, hwc⟩ := hcut
                  subst hwc
                  go_upto_block 8 with fail
                  go_cut [] (fun wd => BN wd g n (rev i tz P) ∧ Below w.heap.size w wd)
                  case first => as_aux_lemma =>
                    go_wp2_with fail
                    go_loopw [10, 11] (fun a c wy => ∃ s : Nat, i + 2 * s ≤ tz ∧ a = .int .i64 ((i + s : Nat) : Int) ∧ c = .int .i64 ((tz : Int) - 1 - s) ∧ BN wy g n (revP i tz s P) ∧ Below w.heap.size w wy) (fun _ c _ => (intOf c + 1).toNat)
                    case atStart => exact ⟨0, by omega, by simp, by simp, hbp.congr (fun j _ => revP_zero i tz P j), hbx⟩
                    case round =>
                      obtain ⟨s, hs, rfl, rfl, hby, hbw⟩ := hrel
                      by_cases hab : i + s < tz - 1 - s
                      · have i1 : (tz : Int) - 1 - s = ((tz - 1 - s : Nat) : Int) := by omega
                        have Hst := hide (fun j (_ : j < n) => revP_step P hab j)
                        have ca := hby.bi.cell (j := i + s) (by omega)
                        have cb := hby.bi.cell (j := tz - 1 - s) (by omega)
                        have fa := hby.bi.frozen (i + s)
                        have fb := hby.bi.frozen (tz - 1 - s)
                        rw [i1]
                        obtain ⟨a, Ha⟩ : ∃ a, Hid (a = i + s) := ⟨_, rfl⟩
                        obtain ⟨b', Hb⟩ : ∃ b, Hid (b = tz - 1 - s) := ⟨_, rfl⟩
                        rw [← Ha.out, ← Hb.out] at Hst
                        rw [← Ha.out] at ca fa hab
                        rw [← Hb.out] at cb fb hab
                        rw [← Ha.out, ← Hb.out]
                        have han : a < n := by rw [Ha.out]; omega
                        have hbn' : b' < n := by rw [Hb.out]; omega
                        have hne : a ≠ b' := by omega
                        have Hset := hide ((hby.set a (revP i tz s P b')).set b' (revP i tz s P a))
                        have Hbw := hide ((hbw.setCell (p := ⟨g, a, none⟩) hgl (.int .i64 ((revP i tz s P b' : Nat) : Int))).setCell (p := ⟨g, b', none⟩) hgl (.int .i64 ((revP i tz s P a : Nat) : Int)))
                        obtain ⟨va, hva⟩ : ∃ x : Int, x = ((revP i tz s P a : Nat) : Int) := ⟨_, rfl⟩
                        obtain ⟨vb, hvb⟩ : ∃ x : Int, x = ((revP i tz s P b' : Nat) : Int) := ⟨_, rfl⟩
                        rw [← hva] at ca Hset Hbw
                        rw [← hvb] at cb Hset Hbw
                        clear hva hvb hby hbw
                        go_upto_region 24 with fail
                        refine wp_region_listed (S := fun l w' => (l.getD 13 true = false → w'.cell? ⟨g, a, none⟩ = some (.int .i64 va)) ∧ (l.getD 15 true = false → w'.cell? ⟨g, b', none⟩ = some (.int .i64 vb))) (by kernel_rfl) ?hSS (fun hHeld => ?_)
                        case hSS => exact ⟨fun _ => ca, fun _ => cb⟩
                        refine wpAnyL_take (i := 0) (v := ?vSn0) rfl (by kernel_rfl) (by kernel_rfl) (by kernel_rfl) (by kernel_rfl) (fun _ _ _ h => h) ?hsSn0 (Or.inl ⟨by rfl, ?hySn0⟩) (by assumption) (fun hHeld => ?_)
                        case hsSn0 => (intro l w; (try dsimp only); simp only [Go.getD_set_ne true (show (0 : Nat) ≠ 13 by decide), Go.getD_set_ne true (show (0 : Nat) ≠ 15 by decide)])
                        case hySn0 => (intro w hSw; obtain ⟨l, hl, hc, hSw⟩ := hSw; (try dsimp only at hSw); obtain ⟨cS0, cS1⟩ := hSw; clear hc hl; go_simp; try with_reducible rfl)
                        try simp only [Act.put, List.getElem_toArray, List.getElem_cons_zero, List.getElem_cons_succ, List.setIfInBounds_toArray, List.set_cons_zero, List.set_cons_succ]
                        refine wpAnyL_take (i := 1) (v := ?vSn1) rfl (by kernel_rfl) (by kernel_rfl) (by kernel_rfl) (by kernel_rfl) (fun _ _ _ h => h) ?hsSn1 (Or.inl ⟨by rfl, ?hySn1⟩) (by assumption) (fun hHeld => ?_)
                        case hsSn1 => (intro l w; (try dsimp only); simp only [Go.getD_set_ne true (show (1 : Nat) ≠ 13 by decide), Go.getD_set_ne true (show (1 : Nat) ≠ 15 by decide)])
                        case hySn1 => (intro w hSw; obtain ⟨l, hl, hc, hSw⟩ := hSw; (try dsimp only at hSw); obtain ⟨cS0, cS1⟩ := hSw; clear hc hl; go_simp; try with_reducible rfl)
                        try simp only [Act.put, List.getElem_toArray, List.getElem_cons_zero, List.getElem_cons_succ, List.setIfInBounds_toArray, List.set_cons_zero, List.set_cons_succ]
                        refine wpAnyL_take (i := 2) (v := ?vSn2) rfl (by kernel_rfl) (by kernel_rfl) (by kernel_rfl) (by kernel_rfl) (fun _ _ _ h => h) ?hsSn2 (Or.inl ⟨by rfl, ?hySn2⟩) (by assumption) (fun hHeld => ?_)
                        case hsSn2 => (intro l w; (try dsimp only); simp only [Go.getD_set_ne true (show (2 : Nat) ≠ 13 by decide), Go.getD_set_ne true (show (2 : Nat) ≠ 15 by decide)])
                        case hySn2 => (intro w hSw; obtain ⟨l, hl, hc, hSw⟩ := hSw; (try dsimp only at hSw); obtain ⟨cS0, cS1⟩ := hSw; clear hc hl; go_simp; try with_reducible rfl)
                        try simp only [Act.put, List.getElem_toArray, List.getElem_cons_zero, List.getElem_cons_succ, List.setIfInBounds_toArray, List.set_cons_zero, List.set_cons_succ]
                        refine wpAnyL_take (i := 3) (v := ?vSn3) rfl (by kernel_rfl) (by kernel_rfl) (by kernel_rfl) (by kernel_rfl) (fun _ _ _ h => h) ?hsSn3 (Or.inl ⟨by rfl, ?hySn3⟩) (by assumption) (fun hHeld => ?_)
                        case hsSn3 => (intro l w; (try dsimp only); simp only [Go.getD_set_ne true (show (3 : Nat) ≠ 13 by decide), Go.getD_set_ne true (show (3 : Nat) ≠ 15 by decide)])
                        case hySn3 => (intro w hSw; obtain ⟨l, hl, hc, hSw⟩ := hSw; (try dsimp only at hSw); obtain ⟨cS0, cS1⟩ := hSw; clear hc hl; go_simp; try with_reducible rfl)
                        try simp only [Act.put, List.getElem_toArray, List.getElem_cons_zero, List.getElem_cons_succ, List.setIfInBounds_toArray, List.set_cons_zero, List.set_cons_succ]
                        refine wpAnyL_take (i := 4) (v := ?vSn4) rfl (by kernel_rfl) (by kernel_rfl) (by kernel_rfl) (by kernel_rfl) (fun _ _ _ h => h) ?hsSn4 (Or.inl ⟨by rfl, ?hySn4⟩) (by assumption) (fun hHeld => ?_)
                        case hsSn4 => (intro l w; (try dsimp only); simp only [Go.getD_set_ne true (show (4 : Nat) ≠ 13 by decide), Go.getD_set_ne true (show (4 : Nat) ≠ 15 by decide)])
                        case hySn4 => (intro w hSw; obtain ⟨l, hl, hc, hSw⟩ := hSw; (try dsimp only at hSw); obtain ⟨cS0, cS1⟩ := hSw; clear hc hl; go_simp; try with_reducible rfl)
                        try simp only [Act.put, List.getElem_toArray, List.getElem_cons_zero, List.getElem_cons_succ, List.setIfInBounds_toArray, List.set_cons_zero, List.set_cons_succ]
                        refine wpAnyL_take (i := 5) (v := ?vSn5) rfl (by kernel_rfl) (by kernel_rfl) (by kernel_rfl) (by kernel_rfl) (fun _ _ _ h => h) ?hsSn5 (Or.inl ⟨by rfl, ?hySn5⟩) (by assumption) (fun hHeld => ?_)
                        case hsSn5 => (intro l w; (try dsimp only); simp only [Go.getD_set_ne true (show (5 : Nat) ≠ 13 by decide), Go.getD_set_ne true (show (5 : Nat) ≠ 15 by decide)])
                        case hySn5 => (intro w hSw; obtain ⟨l, hl, hc, hSw⟩ := hSw; (try dsimp only at hSw); obtain ⟨cS0, cS1⟩ := hSw; clear hc hl; go_simp; try with_reducible rfl)
                        try simp only [Act.put, List.getElem_toArray, List.getElem_cons_zero, List.getElem_cons_succ, List.setIfInBounds_toArray, List.set_cons_zero, List.set_cons_succ]
                        refine wpAnyL_take (i := 6) (v := ?vSn6) rfl (by kernel_rfl) (by kernel_rfl) (by kernel_rfl) (by kernel_rfl) (fun _ _ _ h => h) ?hsSn6 (Or.inl ⟨by rfl, ?hySn6⟩) (by assumption) (fun hHeld => ?_)
                        case hsSn6 => (intro l w; (try dsimp only); simp only [Go.getD_set_ne true (show (6 : Nat) ≠ 13 by decide), Go.getD_set_ne true (show (6 : Nat) ≠ 15 by decide)])
                        case hySn6 => (intro w hSw; obtain ⟨l, hl, hc, hSw⟩ := hSw; (try dsimp only at hSw); obtain ⟨cS0, cS1⟩ := hSw; clear hc hl; go_simp; try with_reducible rfl)
                        try simp only [Act.put, List.getElem_toArray, List.getElem_cons_zero, List.getElem_cons_succ, List.setIfInBounds_toArray, List.set_cons_zero, List.set_cons_succ]
                        refine wpAnyL_take (i := 7) (v := ?vSn7) rfl (by kernel_rfl) (by kernel_rfl) (by kernel_rfl) (by kernel_rfl) (fun _ _ _ h => h) ?hsSn7 (Or.inl ⟨by rfl, ?hySn7⟩) (by assumption) (fun hHeld => ?_)
                        case hsSn7 => (intro l w; (try dsimp only); simp only [Go.getD_set_ne true (show (7 : Nat) ≠ 13 by decide), Go.getD_set_ne true (show (7 : Nat) ≠ 15 by decide)])
                        case hySn7 => (intro w hSw; obtain ⟨l, hl, hc, hSw⟩ := hSw; (try dsimp only at hSw); obtain ⟨cS0, cS1⟩ := hSw; replace cS1 := cS1 (hc.waits 24 (by decide +kernel) hl); clear hc hl; go_simp; try with_reducible rfl)
                        try simp only [Act.put, List.getElem_toArray, List.getElem_cons_zero, List.getElem_cons_succ, List.setIfInBounds_toArray, List.set_cons_zero, List.set_cons_succ]
                        refine wpAnyL_take (i := 8) (v := ?vSn8) rfl (by kernel_rfl) (by kernel_rfl) (by kernel_rfl) (by kernel_rfl) (fun _ _ _ h => h) ?hsSn8 (Or.inl ⟨by rfl, ?hySn8⟩) (by assumption) (fun hHeld => ?_)
                        case hsSn8 => (intro l w; (try dsimp only); simp only [Go.getD_set_ne true (show (8 : Nat) ≠ 13 by decide), Go.getD_set_ne true (show (8 : Nat) ≠ 15 by decide)])
                        case hySn8 => (intro w hSw; obtain ⟨l, hl, hc, hSw⟩ := hSw; (try dsimp only at hSw); obtain ⟨cS0, cS1⟩ := hSw; clear hc hl; go_simp; try with_reducible rfl)
                        try simp only [Act.put, List.getElem_toArray, List.getElem_cons_zero, List.getElem_cons_succ, List.setIfInBounds_toArray, List.set_cons_zero, List.set_cons_succ]
                        refine wpAnyL_take (i := 9) (v := ?vSn9) rfl (by kernel_rfl) (by kernel_rfl) (by kernel_rfl) (by kernel_rfl) (fun _ _ _ h => h) ?hsSn9 (Or.inl ⟨by rfl, ?hySn9⟩) (by assumption) (fun hHeld => ?_)
                        case hsSn9 => (intro l w; (try dsimp only); simp only [Go.getD_set_ne true (show (9 : Nat) ≠ 13 by decide), Go.getD_set_ne true (show (9 : Nat) ≠ 15 by decide)])
                        case hySn9 => (intro w hSw; obtain ⟨l, hl, hc, hSw⟩ := hSw; (try dsimp only at hSw); obtain ⟨cS0, cS1⟩ := hSw; clear hc hl; go_simp; try with_reducible rfl)
                        try simp only [Act.put, List.getElem_toArray, List.getElem_cons_zero, List.getElem_cons_succ, List.setIfInBounds_toArray, List.set_cons_zero, List.set_cons_succ]
                        refine wpAnyL_take (i := 10) (v := ?vSn10) rfl (by kernel_rfl) (by kernel_rfl) (by kernel_rfl) (by kernel_rfl) (fun _ _ _ h => h) ?hsSn10 (Or.inl ⟨by rfl, ?hySn10⟩) (by assumption) (fun hHeld => ?_)
                        case hsSn10 => (intro l w; (try dsimp only); simp only [Go.getD_set_ne true (show (10 : Nat) ≠ 13 by decide), Go.getD_set_ne true (show (10 : Nat) ≠ 15 by decide)])
                        case hySn10 => (intro w hSw; obtain ⟨l, hl, hc, hSw⟩ := hSw; (try dsimp only at hSw); obtain ⟨cS0, cS1⟩ := hSw; clear hc hl; go_simp; try with_reducible rfl)
                        try simp only [Act.put, List.getElem_toArray, List.getElem_cons_zero, List.getElem_cons_succ, List.setIfInBounds_toArray, List.set_cons_zero, List.set_cons_succ]
                        refine wpAnyL_take (i := 11) (v := ?vSn11) rfl (by kernel_rfl) (by kernel_rfl) (by kernel_rfl) (by kernel_rfl) (fun _ _ _ h => h) ?hsSn11 (Or.inl ⟨by rfl, ?hySn11⟩) (by assumption) (fun hHeld => ?_)
                        case hsSn11 => (intro l w; (try dsimp only); simp only [Go.getD_set_ne true (show (11 : Nat) ≠ 13 by decide), Go.getD_set_ne true (show (11 : Nat) ≠ 15 by decide)])
                        case hySn11 => (intro w hSw; obtain ⟨l, hl, hc, hSw⟩ := hSw; (try dsimp only at hSw); obtain ⟨cS0, cS1⟩ := hSw; replace cS0 := cS0 (hc.waits 24 (by decide +kernel) hl); clear hc hl; go_simp; try with_reducible rfl)
                        try simp only [Act.put, List.getElem_toArray, List.getElem_cons_zero, List.getElem_cons_succ, List.setIfInBounds_toArray, List.set_cons_zero, List.set_cons_succ]
                        refine wpAnyL_take (i := 12) (v := ?vSn12) rfl (by kernel_rfl) (by kernel_rfl) (by kernel_rfl) (by kernel_rfl) (fun _ _ _ h => h) ?hsSn12 (Or.inl ⟨by rfl, ?hySn12⟩) (by assumption) (fun hHeld => ?_)
                        case hsSn12 => (intro l w; (try dsimp only); simp only [Go.getD_set_ne true (show (12 : Nat) ≠ 13 by decide), Go.getD_set_ne true (show (12 : Nat) ≠ 15 by decide)])
                        case hySn12 => (intro w hSw; obtain ⟨l, hl, hc, hSw⟩ := hSw; (try dsimp only at hSw); obtain ⟨cS0, cS1⟩ := hSw; clear hc hl; go_simp; try with_reducible rfl)
                        try simp only [Act.put, List.getElem_toArray, List.getElem_cons_zero, List.getElem_cons_succ, List.setIfInBounds_toArray, List.set_cons_zero, List.set_cons_succ]
                        refine wpAnyL_ready (rs := [13]) (by kernel_rfl) (by simp) (AllReadyL.cons rfl (fun K hK => ?_) AllReadyL.nil)
                        go_simp
                        refine hK.out _ _ ?hkSn13 (fun hHeld => ?_)
                        case hkSn13 => exact ⟨fun h => absurd h (by first | decide | kernel_rfl), fun _ => cell_other (hHeld.2 (by first | decide | kernel_rfl)) (Ne.symm hne)⟩
                        clear hK K
                        try simp only [Act.put, List.getElem_toArray, List.getElem_cons_zero, List.getElem_cons_succ, List.setIfInBounds_toArray, List.set_cons_zero, List.set_cons_succ]
                        refine wpAnyL_take (i := 14) (v := ?vSn14) rfl (by kernel_rfl) (by kernel_rfl) (by kernel_rfl) (by kernel_rfl) (fun _ _ _ h => h) ?hsSn14 (Or.inl ⟨by rfl, ?hySn14⟩) (by assumption) (fun hHeld => ?_)
                        case hsSn14 => (intro l w; (try dsimp only); simp only [Go.getD_set_ne true (show (14 : Nat) ≠ 13 by decide), Go.getD_set_ne true (show (14 : Nat) ≠ 15 by decide)])
                        case hySn14 => (intro w hSw; obtain ⟨l, hl, hc, hSw⟩ := hSw; (try dsimp only at hSw); obtain ⟨cS0, cS1⟩ := hSw; clear hc hl; go_simp; try with_reducible rfl)
                        try simp only [Act.put, List.getElem_toArray, List.getElem_cons_zero, List.getElem_cons_succ, List.setIfInBounds_toArray, List.set_cons_zero, List.set_cons_succ]
                        refine wpAnyL_ready (rs := [15]) (by kernel_rfl) (by simp) (AllReadyL.cons rfl (fun K hK => ?_) AllReadyL.nil)
                        go_simp
                        refine hK.out _ _ ?hkSn15 (fun hHeld => ?_)
                        case hkSn15 => exact ⟨fun h => absurd h (by first | decide | kernel_rfl), fun h => absurd h (by first | decide | kernel_rfl)⟩
                        clear hK K
                        try simp only [Act.put, List.getElem_toArray, List.getElem_cons_zero, List.getElem_cons_succ, List.setIfInBounds_toArray, List.set_cons_zero, List.set_cons_succ]
                        refine wpAnyL_done (by kernel_rfl) ?_ _
                        go_wp2_with fail
                        go_roundw
                        case rel => exact ⟨s + 1, by have h1 := Ha.out; have h2 := Hb.out; omega, by rw [Ha.out]; go_num, by rw [Hb.out]; go_num, (Hset.out.congr Hst.out), below_drewN Hbw.out 1⟩
                        case measure => (simp [intOf] <;> omega)
                      · have hab2 : ¬ ((i + s : Nat) : Int) < (tz : Int) - 1 - s := by omega
                        have hab3 : decide (((i + s : Nat) : Int) < (tz : Int) - 1 - s) = false := decide_eq_false hab2
                        have Hend := hide (fun j (_ : j < n) => revP_end P hs (by omega) hab j)
                        go_wp2_with fail
                        go_meet
                        exact ⟨hby.congr Hend.out, hbw⟩
                  case rest =>
                    obtain ⟨hbr, hbd⟩ := hcut
                    go_wp2_with fail
                    go_roundw
                    case rel => exact ⟨tz + 1, f, _, by omega, by omega, by go_num, hst2, hbr, hbd⟩
                    case measure => simp [intOf]; omega
          · have hQ : Hid (Q = P) := hide (HP.out.trans (by
              cases f with
              | zero => rfl
              | succ f =>
                show (if n ≤ i then P else _) = P
                rw [if_pos (by omega)]))
            have hd : decide (i < n) = false := decide_eq_false hlt
            have i1 : X - 1 = (x : Int) := by rw [HX.out]; omega
            go_wp2_with fail
            go_roundw
            case rel => exact ⟨x, Q, by omega, by go_num, hR2, by rw [hQ.out]; exact hbp, hbx⟩
            case measure => simp [intOf]; omega
end Go.Proofs.YtdikfldogmbeaaaDoor.Bd
