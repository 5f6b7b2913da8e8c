/- The contract of bidi.Line. -/
import Derived.Test.YtdikfldogmbeaaaDoorBdPerm
import Derived.Test.YtdikfldogmbeaaaDoorBdLevels
import Derived.Test.YtdikfldogmbeaaaDoorConcat
namespace Go.Proofs.YtdikfldogmbeaaaDoor.Bd
open Go.RowKit Go.Frm

theorem blanks_bd (W : Nat → Int) (base : Int) (N : Nat) (hb : 0 ≤ base ∧ base ≤ 1) : ∀ i b (L : Nat → Int), (∀ j, j < N → 0 ≤ L j ∧ L j ≤ 126) → ∀ j, j < N → 0 ≤ blanks W base i b L j ∧ blanks W base i b L j ≤ 126
  | 0, _, _, h => h
  | i + 1, b, L, h => by
    have hu : ∀ j, j < N → 0 ≤ upd L i base j ∧ upd L i base j ≤ 126 := fun j hj => by
      unfold upd
      split
      · omega
      · exact h j hj
    unfold blanks
    split
    · exact blanks_bd W base N hb i _ _ hu
    · split
      · refine blanks_bd W base N hb i _ _ ?_
        split
        · exact hu
        · exact h
      · exact blanks_bd W base N hb i _ _ h
theorem rdI_sub {w : World} {b off : Nat} {zs : List Int} (h : RdI w (some ⟨b, off, none⟩) zs) (s m : Nat) (hs : s + m ≤ zs.length) : RdI w (some ⟨b, off + s, none⟩) ((zs.drop s).take m) := by
  refine .inr ⟨b, off + s, rfl, fun j hj => ?_⟩
  have hj' : j < m := by
    rw [List.length_take] at hj
    omega
  have h1 := h.get (k := s + j) (by omega)
  rw [show off + s + j = off + (s + j) by omega, h1]
  congr 2
  unfold ix
  rw [List.getD_eq_getElem?_getD, List.getD_eq_getElem?_getD, List.getElem?_take, if_pos hj', List.getElem?_drop]
set_option maxRecDepth 100000 in
set_option maxHeartbeats 1000000 in
theorem resetBlanks_zero (B A : Option Addr) (cp cl : Nat) (base : Int) (w : World) : Calls Tryd.prog 26 #[.slice B 0 cp, .slice A 0 cl, .int .i64 base] w fun e w' => e = .returned (.tuple #[]) ∧ w = w' := by
  go_enter Tryd.func26, Tryd.ntmps26
  go_wp2_with fail
  go_loopw [6, 7] (fun v a wr => v = .bool true ∧ a = .int .i64 (-1) ∧ w = wr) (fun _ _ _ => 0)
  case atStart => exact ⟨rfl, rfl, rfl⟩
  case round =>
    obtain ⟨rfl, rfl, rfl⟩ := hrel
    go_wp2_with fail
    refine bodyPost_end (results_none rfl _ _ _) rfl ?_
    exact ⟨rfl, rfl⟩
def LinePost (w : World) (fr m : Nat) (e : Ending) (w' : World) : Prop := ∃ g o, e = .returned (.tuple #[.slice (some ⟨g, 0, none⟩) m m, .int .i64 0]) ∧ Pm m o ∧ BI w' g m (fun j => ((fr + o j : Nat) : Int)) ∧ Below w.heap.size w w'
set_option maxRecDepth 100000 in
set_option maxHeartbeats 8000000 in
theorem line_ok (A : Option Addr) (cp : Nat) (zs : List Int) (gl : Nat) (L : Nat → Int) (base : Int) (fr m : Nat) (w : World) (ht : TabC w) (hr : RdI w A zs) (hc : chk zs = 0) (hcp : zs.length ≤ cp) (hcm : cp ≤ 9223372036854775807) (hl : BI w gl zs.length L)
    (hL : ∀ j, j < zs.length → 0 ≤ L j ∧ L j ≤ 126) (hb : 0 ≤ base ∧ base ≤ 1) (hfm : fr + m ≤ zs.length) (hA : A = none → cp = 0) :
    Calls Tryd.prog 14 #[.slice A zs.length cp, .slice (some ⟨gl, 0, none⟩) zs.length zs.length, .int .i64 base, .int .i64 (fr : Nat), .int .i64 ((fr + m : Nat) : Int)] w (LinePost w fr m) := by
  have hn := chk_len hc
  have Hck := hide (check_ok A cp zs w hr (by omega))
  rw [hc] at Hck
  have Hr := hide hr
  have Ht := hide ht
  have Hl := hide hl
  have HL := hide hL
  have hgl := hl.lt
  clear hr hc ht hl hL
  by_cases hm : m = 0
  · subst hm
    rw [Nat.add_zero] at hfm
    rw [Nat.add_zero]
    obtain ⟨n, Hn⟩ : ∃ n, Hid (n = zs.length) := ⟨_, rfl⟩
    rw [← Hn.out] at Hck hn hfm hcp
    rw [← Hn.out]
    have hd1 : decide (base < 0) = false := decide_eq_false (by omega)
    have hd2 : decide (1 < base) = false := decide_eq_false (by omega)
    have hd3 : decide ((fr : Int) < 0) = false := decide_eq_false (by omega)
    have hd7 : decide (fr < fr) = false := decide_eq_false (by omega)
    have hd8 : decide (n < fr) = false := decide_eq_false (by omega)
    have hrun : ∀ (ty : TypeId) (X : Option Addr) (cx : Nat) (wx : World), (Builtin.append_ #[22, 22] ty #[.slice none 0 0, .slice X 0 cx]).run Tryd.prog wx = .ok (.slice none 0 0) wx := fun ty X cx wx => Cat.run_none wx ty 0 none X 0 0 cx [] (World.ownsRow_nil _ _ _ _)
    have hz : ∀ wx : World, RdI wx none (tab 0 fun _ => 0) := fun wx => .inl rfl
    have Hor := hide (fun wx => order_ok none 0 0 (fun _ => 0) wx (hz wx) (by decide) (fun i hi => absurd hi (Nat.not_lt_zero i)))
    have Hcl := hide (fun (X : Option Addr) (cx : Nat) => classes_ok X cx [] w Ht.out (.inl rfl) (by decide))
    clear hz
    have fin : ∀ (g : Nat) (wx : World), BN wx g 0 (order (fun _ => 0) 0) → Below w.heap.size w wx → LinePost w fr 0 (.returned (.tuple #[.slice (some ⟨g, 0, none⟩) 0 0, .int .i64 0])) wx := fun g wx h1 h2 =>
      ⟨g, fun j => j, rfl, pm_id 0, h1.bi.congr (fun j hj => absurd hj (Nat.not_lt_zero j)), h2⟩
    have Fin := hide fin
    clear fin
    go_enter Tryd.func14, Tryd.ntmps14
    go_wp2_with fail
    refine Hck.out.mono ?_
    rintro e9 w9 ⟨rfl, rfl⟩
    go_upto_region 8 with fail
    go_cut [13] (fun v wc => v = .slice none 0 0 ∧ w = wc)
    case first => as_aux_lemma =>
      by_cases hfn : n = fr
      · subst hfn
        go_wp2_with fail
        go_meet
        exact ⟨rfl, rfl⟩
      · go_wp2_with fail
        go_meet
        exact ⟨rfl, rfl⟩
    case rest =>
      obtain ⟨rfl, rfl⟩ := hcut
      clear Hck
      go_wp2_with fail
      go_loopw [57] (fun a wr => a = .int .i64 0 ∧ w = wr) (fun _ _ => 0)
      case atStart => exact ⟨rfl, rfl⟩
      case round =>
        obtain ⟨rfl, rfl⟩ := hrel
        cases A with
        | none =>
          obtain rfl : cp = 0 := hA rfl
          obtain rfl : n = 0 := by omega
          obtain rfl : fr = 0 := by omega
          go_wp2_with fail
          refine (Hcl.out _ _).mono ?_
          rintro e9 w4 ⟨g4, rfl, hg4, hb4, hbl4⟩
          go_wp2_with fail
          refine (resetBlanks_zero _ _ _ _ _ _).mono ?_
          rintro e9 w9 ⟨rfl, rfl⟩
          go_wp2_with fail
          refine (Hor.out _).mono ?_
          rintro e9 w6 ⟨g6, rfl, hg6, hbn, hbl6⟩
          go_wp2_with fail
          go_loopw [83] (fun a wr => a = .int .i64 0 ∧ w6 = wr) (fun _ _ => 0)
          case atStart => exact ⟨rfl, rfl⟩
          case round =>
            obtain ⟨rfl, rfl⟩ := hrel
            go_wp2_with fail
            go_ret2
            exact Fin.out g6 w6 hbn (hbl4.trans (hbl6.mono hbl4.size))
        | some ad =>
          obtain ⟨ab, ao, as_⟩ := ad
          by_cases hcf : cp = fr
          · subst hcf
            go_wp2_with fail
            refine (Hcl.out _ _).mono ?_
            rintro e9 w4 ⟨g4, rfl, hg4, hb4, hbl4⟩
            go_wp2_with fail
            refine (resetBlanks_zero _ _ _ _ _ _).mono ?_
            rintro e9 w9 ⟨rfl, rfl⟩
            go_wp2_with fail
            refine (Hor.out _).mono ?_
            rintro e9 w6 ⟨g6, rfl, hg6, hbn, hbl6⟩
            go_wp2_with fail
            go_loopw [83] (fun a wr => a = .int .i64 0 ∧ w6 = wr) (fun _ _ => 0)
            case atStart => exact ⟨rfl, rfl⟩
            case round =>
              obtain ⟨rfl, rfl⟩ := hrel
              go_wp2_with fail
              go_ret2
              exact Fin.out g6 w6 hbn (hbl4.trans (hbl6.mono hbl4.size))
          · go_wp2_with fail
            refine (Hcl.out _ _).mono ?_
            rintro e9 w4 ⟨g4, rfl, hg4, hb4, hbl4⟩
            go_wp2_with fail
            refine (resetBlanks_zero _ _ _ _ _ _).mono ?_
            rintro e9 w9 ⟨rfl, rfl⟩
            go_wp2_with fail
            refine (Hor.out _).mono ?_
            rintro e9 w6 ⟨g6, rfl, hg6, hbn, hbl6⟩
            go_wp2_with fail
            go_loopw [83] (fun a wr => a = .int .i64 0 ∧ w6 = wr) (fun _ _ => 0)
            case atStart => exact ⟨rfl, rfl⟩
            case round =>
              obtain ⟨rfl, rfl⟩ := hrel
              go_wp2_with fail
              go_ret2
              exact Fin.out g6 w6 hbn (hbl4.trans (hbl6.mono hbl4.size))
  · have hnpos : 0 < zs.length := by omega
    obtain ⟨b, off, rfl, _⟩ := Hr.out.at_ hnpos
    obtain ⟨n, Hn⟩ : ∃ n, Hid (n = zs.length) := ⟨_, rfl⟩
    rw [← Hn.out] at Hck Hl HL hn hfm hcp hnpos
    rw [← Hn.out]
    have hd1 : decide (base < 0) = false := decide_eq_false (by omega)
    have hd2 : decide (1 < base) = false := decide_eq_false (by omega)
    have hd3 : decide ((fr : Int) < 0) = false := decide_eq_false (by omega)
    have hd5 : ¬ n = fr := by omega
    have hd6 : ¬ cp = fr := by omega
    obtain ⟨tz, Htz⟩ : ∃ t, Hid (t = fr + m) := ⟨_, rfl⟩
    have htn : tz ≤ n := by rw [Htz.out]; exact hfm
    have hft : fr < tz := by rw [Htz.out]; omega
    have hmt : tz - fr = m := by rw [Htz.out]; omega
    rw [← Htz.out]
    have hd7 : decide (tz < fr) = false := decide_eq_false (by omega)
    have hd8 : decide (n < tz) = false := decide_eq_false (by omega)
    have hm0 : 0 < m := by omega
    have hsrc : ∀ (wx : World), Below w.heap.size w wx → ∀ (j : Nat) (u : Value), (tabV m fun i => .int .i64 (L (fr + i)))[j]? = some u → wx.cell? ((⟨gl, fr, none⟩ : Addr).add j) = some u := fun wx hbx j u hu => by
      have hj : j < m := by
        have := (List.getElem?_eq_some_iff.1 hu).1
        rwa [tabV_length] at this
      rw [tabV_get _ hj] at hu
      injection hu with hu
      subst hu
      have h2 : BI wx gl n L := Hl.out.blk.below hbx Hl.out.lt
      have h3 := h2.cell (j := fr + j) (by omega)
      unfold Addr.add
      split
      · rename_i h0; subst h0; exact h3
      · exact h3
    have Hsrc := hide hsrc
    clear hsrc
    go_enter Tryd.func14, Tryd.ntmps14
    go_wp2_with fail
    refine Hck.out.mono ?_
    rintro e9 w9 ⟨rfl, rfl⟩
    go_upto_region 8 with fail
    go_wp2_with (at_builtin; refine wpL_append rfl rfl Tryd.underlying22 int_info rfl (by decide) rfl rfl (World.ownsRow_nil w w.heap.size 3 1) (Hsrc.out w (Below.refl _ _)) (by rw [tabV_length]; omega) (by intro u hu; simp [tabV] at hu; obtain ⟨x, _, rfl⟩ := hu; rfl) (by omega) (by omega) (by simp) ?_; intro v3 w3 hown3 hgrow3; replace hown3 : w3.ownsRow w.heap.size 3 1 v3 m (tabV m fun i => .int .i64 (L (fr + i))) := (by simpa [hmt] using hown3); obtain ⟨A3, c3, rfl⟩ := own_form hown3)
    have hb3 : Below w.heap.size w w3 := below_app (Below.refl _ w) (Nat.le_refl _) (World.ownsRow_nil w w.heap.size 3 1) hgrow3
    obtain ⟨g3, rfl, hg3⟩ := own_at hown3 hm0
    have hs3 := hb3.size
    clear hgrow3
    go_loopw [57] (fun a wr => ∃ i : Nat, i ≤ m ∧ a = .int .i64 i ∧ w3 = wr) (fun a _ => m - (intOf a).toNat)
    case atStart => exact ⟨0, Nat.zero_le _, rfl, rfl⟩
    case round =>
      obtain ⟨i, hi, rfl, rfl⟩ := hrel
      by_cases hlt : i < m
      · have ci := own_cell hown3 (j := i) hlt
        have hLi := HL.out (fr + i) (by omega)
        generalize L (fr + i) = x at *
        have e1 : decide (x < 0) = false := decide_eq_false (by omega)
        have e2 : decide (126 < x) = false := decide_eq_false (by omega)
        clear hLi
        go_wp2_with fail
        go_roundw
        case rel => exact ⟨i + 1, by omega, by go_num, by first | rfl | trivial⟩
        case measure => simp [intOf]; omega
      · obtain rfl : i = m := by omega
        have hzl : ((zs.drop fr).take i).length = i := by rw [List.length_take, List.length_drop, ← Hn.out]; omega
        have Hcl := hide (classes_ok (some ⟨b, off + fr, none⟩) (cp - fr) ((zs.drop fr).take i) w3 (Ht.out.below hb3) (rdI_sub (Hr.out.below hb3) fr i (by rw [← Hn.out]; exact hfm)) (by rw [hzl]; omega))
        rw [hzl] at Hcl
        generalize (zs.drop fr).take i = zz at *
        clear hzl
        have hn5 : i ≤ 100000 := by omega
        go_wp2_with fail
        refine Hcl.out.mono ?_
        rintro e9 w4 ⟨g4, rfl, hg4, hb4, hbl4⟩
        have hbw4 : Below w.heap.size w w4 := hb3.trans (hbl4.mono hs3)
        have hg3l : g3 < w3.heap.size := by
          have := World.block_lt_of_cell? _ _ (own_cell hown3 (j := 0) hm0)
          exact this
        have hown4 := own_below hown3 hbl4
        have Hrb := hide (resetBlanks_ok g4 0 i i g3 c3 (clsX zz) (fun j => L (fr + j)) base (fun w F => w.ownsRow _ 3 1 (.slice (some ⟨g3, 0, none⟩) i c3) i (tabV i fun i => .int .i64 (F i))) (rowLike_own g3 i c3 _) w4 hb4.rd hown4 (by omega) hn5)
        clear Hcl hown3
        go_wp2_with fail
        refine Hrb.out.mono ?_
        rintro e9 w5 ⟨rfl, hown5, hg5⟩
        have hbw5 : Below w.heap.size w w5 := hbw4.trans (hg5.to_below hbw4.size (fun x hx => by have : x = g3 := hx; omega))
        have hLb := blanks_bd (clsX zz) base i hb i true (fun j => L (fr + j)) (fun j hj => HL.out (fr + j) (by omega))
        have hrd5 : RdI w5 (some ⟨g3, 0, none⟩) (tab i (blanks (clsX zz) base i true fun j => L (fr + j))) := RdI.of_own (by rw [← tabV_ints]; exact hown5)
        generalize (blanks (clsX zz) base i true fun j => L (fr + j)) = L2 at *
        have Hor := hide (order_ok (some ⟨g3, 0, none⟩) c3 i L2 w5 hrd5 hn5 hLb)
        have hpm := order_pm L2 i
        generalize order L2 i = o at *
        clear Hrb hown4 hown5 hg5 hLb hrd5
        go_wp2_with fail
        refine Hor.out.mono ?_
        rintro e9 w6 ⟨g6, rfl, hg6, hbn, hbl6⟩
        have hbw6 : Below w.heap.size w w6 := hbw5.trans (hbl6.mono hbw5.size)
        have hg6w : w.heap.size ≤ g6 := Nat.le_trans hbw5.size hg6
        have hpm2 := hpm
        obtain ⟨o2, hpa, _⟩ := hpm2
        have Hpa := hide hpa
        clear Hor hbl6 hpa
        go_wp2_with fail
        go_loopw [83] (fun a wr => ∃ k : Nat, k ≤ i ∧ a = .int .i64 k ∧ BI wr g6 i (fun j => if j < k then ((fr + o j : Nat) : Int) else (o j : Int)) ∧ Below w.heap.size w wr) (fun a _ => i - (intOf a).toNat)
        case atStart => exact ⟨0, Nat.zero_le _, rfl, hbn.bi.congr (fun j hj => by simp), hbw6⟩
        case round =>
          obtain ⟨w7, rfl⟩ : ∃ wx : World, wx = wr := ⟨_, rfl⟩
          clear hbn hbw6
          obtain ⟨k, hk, rfl, hbk, hbw7⟩ := hrel
          by_cases hk2 : k < i
          · have ck := hbk.cell hk2
            rw [if_neg (by omega)] at ck
            have fk := hbk.frozen k
            have hok := (Hpa.out k hk2).1
            have Hset := hide (hbk.set k ((fr + o k : Nat) : Int))
            obtain ⟨y, Hy⟩ : ∃ y, Hid (y = o k) := ⟨_, rfl⟩
            rw [← Hy.out] at ck hok Hset
            have i1 : (y : Int) + (fr : Int) = ((fr + y : Nat) : Int) := by omega
            go_wp2_with fail
            go_roundw
            case rel => exact ⟨k + 1, by omega, by go_num, Hset.out.congr (fun j hj => by
              unfold upd
              by_cases e : j = k
              · rw [if_pos e, if_pos (by omega), e, Hy.out]
              · rw [if_neg e]
                show (if j < k then ((fr + o j : Nat) : Int) else (o j : Int)) = _
                by_cases h1 : j < k
                · rw [if_pos h1, if_pos (by omega)]
                · rw [if_neg h1, if_neg (by omega)]), hbw7.setCell (p := ⟨g6, k, none⟩) hg6w _⟩
            case measure => simp [intOf]; omega
          · obtain rfl : k = i := by omega
            go_wp2_with fail
            go_ret2
            exact ⟨g6, o, rfl, hpm, hbk.congr (fun j hj => by rw [if_pos hj]), hbw7⟩
end Go.Proofs.YtdikfldogmbeaaaDoor.Bd
