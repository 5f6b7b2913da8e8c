/- PROVED HERE: whatever the pages and the numbers, chancerykeep3.PrintingCounts returns true. No condition beside those of the given statement. -/
import Derived.Test.YtlipdhoeklgdoaaPcSeveral
import Derived.Test.YtlipdhoeklgdoaaPcSort
import Derived.Deep.CutBlock
import Derived.Test.YtlipdhoeklgdoaaEqual
import Derived.Test.YtlipdhoeklgdoaaWithin
import Derived.Test.YtlipdhoeklgdoaaArgs
import Derived.Test.YtlipdhoeklgdoaaChecked
import Derived.Test.YtlipdhoeklgdoaaRows
namespace Go.Proofs.Ytlipdhoeklgdoaa.PrintingCountsDone
open Go.RowKit Go.Frm Go.ChangeShapes Go.WideShapes Go.ChangeAt Pc Wi

/-- the pages that are printed -/
def pg (zs : List Int) (i : Nat) : Int := wi (ix zs i) 1 60
theorem pg_bd (zs : List Int) (i : Nat) : 1 ≤ pg zs i ∧ pg zs i ≤ 60 := wi_bd _ (by omega)
theorem row_map (n : Nat) (x : Nat → Int) : tabV n (fun a => Value.int .i64 (x a)) = ((List.range n).map x).map (Value.int .i64) := by
  unfold tabV
  rw [List.map_map]
  rfl
theorem order_seven (w : World) : Calls Try.prog 7 #[.slice (some ⟨w.heap.size, 0, none⟩) 1 1, .int .i64 2, .bool true, .bool false] (w.alloc (.cells #[.int .i64 7] 3)) fun e w' =>
    ∃ A' c', e = .returned (.tuple #[.slice A' 2 c', .int .i64 0]) ∧ w'.ownsRow (w.alloc (.cells #[.int .i64 7] 3)).heap.size 3 1 (.slice A' 2 c') 2 (([7, 7] : List Int).map (Value.int .i64)) ∧ Below (w.alloc (.cells #[.int .i64 7] 3)).heap.size (w.alloc (.cells #[.int .i64 7] 3)) w' := by
  have hlit := rdI_lit w 3 w.heap.size [7] rfl (by decide)
  have h := order_ok (some ⟨w.heap.size, 0, none⟩) 1 [7] 2 true false _ hlit (by decide) (fun i hi => by
    have h0 : i = 0 := by
      have : i < 1 := hi
      omega
    subst h0
    show (1 : Int) ≤ 7 ∧ (7 : Int) ≤ 60
    omega) (by omega) (by omega)
  exact h.mono (fun e w' ⟨A', c', h1, h2, h3⟩ => ⟨A', c', h1, h2, h3⟩)

set_option maxRecDepth 100000 in
set_option maxHeartbeats 8000000 in
theorem walk (A : Option Addr) (cz : Nat) (zs : List Int) (x : Int) (collate back : Bool) (y z : Int) (w : World) (hr : RdI w A zs) (hn : zs.length ≤ 9223372036854775807) (hwf : ∀ j, j < zs.length → (Lit.int .i64 (ix zs j)).wf = true)
    (hx : (Lit.int .i64 x).wf = true) (hy : (Lit.int .i64 y).wf = true) (hz : (Lit.int .i64 z).wf = true) :
    Calls Try.prog 3 #[.slice A zs.length cz, .int .i64 x, .bool collate, .bool back, .int .i64 y, .int .i64 z] w fun e w' => e = .returned (.bool true) ∧ Below w.heap.size w w' := by
  have Hwf := hide hwf
  have hwx := hide (fun wx => within_any x 1 5 wx hx (by omega) (by omega) (by omega))
  have hwy := hide (fun wx => within_any y 1 4 wx hy (by omega) (by omega) (by omega))
  have hwz := hide (fun wx => within_any z 1 4 wx hz (by omega) (by omega) (by omega))
  obtain ⟨x0, x1⟩ := wi_bd x (show (1 : Int) ≤ 5 by omega)
  obtain ⟨y0, y1⟩ := wi_bd y (show (1 : Int) ≤ 4 by omega)
  obtain ⟨z0, z1⟩ := wi_bd z (show (1 : Int) ≤ 4 by omega)
  obtain ⟨C, hC⟩ : ∃ C : Nat, wi x 1 5 = (C : Int) := ⟨(wi x 1 5).toNat, by omega⟩
  obtain ⟨R, hR⟩ : ∃ R : Nat, wi y 1 4 = (R : Int) := ⟨(wi y 1 4).toNat, by omega⟩
  obtain ⟨L, hL⟩ : ∃ L : Nat, wi z 1 4 = (L : Int) := ⟨(wi z 1 4).toNat, by omega⟩
  rw [hC] at hwx x0 x1
  rw [hR] at hwy y0 y1
  rw [hL] at hwz z0 z1
  clear hwf hx hy hz hC hR hL
  have hb0 := (Below.refl w.heap.size w).alloc (Nat.le_refl _) (.cells #[.int .i64 7] 3)
  have hor := hide (order_seven w)
  go_enter Try.func3, Try.ntmps3
  go_wp2_with fail
  refine hor.out.mono ?_
  rintro e w1 ⟨A1, c1, rfl, hown1, hb1⟩
  have hbl := hb0.trans (hb1.mono hb0.size)
  have hr1 := RdI.of_own hown1
  have hr1a := hr1.alloc (.cells #[.int .i64 7, .int .i64 7] 3)
  have hr2 := rdI_lit w1 3 w1.heap.size [7, 7] rfl (by decide)
  have heq : Hid (Calls Try.prog 8 #[.slice A1 2 c1, .slice (some ⟨w1.heap.size, 0, none⟩) 2 2] (w1.alloc (.cells #[.int .i64 7, .int .i64 7] 3)) fun e w' => e = .returned (.bool true) ∧ ∃ d, w' = (w1.alloc (.cells #[.int .i64 7, .int .i64 7] 3)).drewN d) :=
    (Scl.equal_any A1 (some ⟨w1.heap.size, 0, none⟩) c1 2 [7, 7] [7, 7] _ hr1a hr2 (by decide) (by decide)).mono (fun e w' ⟨h1, h2⟩ => ⟨h1, h2⟩)
  have hbl2 := hbl.alloc hbl.size (.cells #[.int .i64 7, .int .i64 7] 3)
  clear hr1 hr1a hr2 hbl hown1 hb1 hb0 hor
  go_wp2_with fail
  refine heq.out.mono ?_
  rintro e w2 ⟨rfl, d, rfl⟩
  have hbl3 := below_drewN hbl2 d
  clear heq hbl2
  generalize (w1.alloc (.cells #[.int .i64 7, .int .i64 7] 3)).drewN d = w3 at *
  have hsz3 : w.heap.size ≤ w3.heap.size := hbl3.size
  go_upto_block 0 with fail
  go_cut [15] (fun a wc => ∃ (A5 : Option Addr) (c5 : Nat), a = .slice A5 (min zs.length 40) c5 ∧ wc.ownsRow w.heap.size 3 1 (.slice A5 (min zs.length 40) c5) (min zs.length 40) (tabV (min zs.length 40) (fun i => .int .i64 (pg zs i))) ∧ Below w.heap.size w wc)
  case first =>
    go_wp2_with fail
    go_loopw [15, 16] (fun a b wr => ∃ (i : Nat) (A5 : Option Addr) (c5 : Nat), i ≤ min zs.length 40 ∧ b = .int .i64 i ∧ a = .slice A5 i c5 ∧ wr.ownsRow w.heap.size 3 1 (.slice A5 i c5) i (tabV i (fun i => .int .i64 (pg zs i))) ∧ Below w.heap.size w wr) (fun _ b _ => min zs.length 40 - (intOf b).toNat)
    case atStart => exact ⟨0, none, 0, by omega, rfl, rfl, World.ownsRow_nil _ _ _ _, hbl3⟩
    case round =>
      clear hbl3
      obtain ⟨i, A5, c5, hi, rfl, rfl, hown, hbl⟩ := hrel
      by_cases hlt : i < min zs.length 40
      · have hin : i < zs.length := by omega
        have hi4 : i < 40 := by omega
        obtain ⟨b, off, rfl, kz⟩ := (hr.below hbl).at_ hin
        have d1 : decide ((i : Int) < (zs.length : Int)) = true := by simp; omega
        have d2 : decide ((i : Int) < 40) = true := by simp; omega
        have vw := hide (fun wx => within_any (ix zs i) 1 60 wx (Hwf.out i hin) (by omega) (by omega) (by omega))
        have ho5 := hown.alloc (.cells #[.int .i64 (pg zs i)] 3)
        have hb5 := hbl.alloc hbl.size (.cells #[.int .i64 (pg zs i)] 3)
        have hpgv : wi (ix zs i) 1 60 = pg zs i := rfl
        rw [hpgv] at vw
        go_wp2_with (first
          | (go_at_call 9; (with_reducible refine (vw.out _).mono ?_); rintro e w4 ⟨rfl, rfl⟩)
          | (at_builtin; refine wpL_append (size := 1) rfl rfl Try.underlying22 int_info rfl (by decide) rfl rfl ho5 (news_at _ _ _ _ rfl) rfl (by simp [Value.oneCell']) (by omega) (by omega) (by have := hb5.size; omega) ?_; intro v6 w6 hown6 hgrow6))
        obtain ⟨A6, c6, rfl⟩ := own_form hown6
        exact ⟨⟨i + 1, A6, c6, by omega, by simp, rfl, by rw [tabV_succ]; exact hown6, below_app hb5 hb5.size ho5 hgrow6⟩, by simp only [intOf]; omega⟩
      · have e1 : i = min zs.length 40 := by omega
        subst e1
        by_cases h4 : zs.length < 40
        · have e1 : min zs.length 40 = zs.length := by omega
          rw [e1] at hown ⊢
          have He := hide e1
          clear e1 hi hlt
          have d1 : decide ((zs.length : Int) < (zs.length : Int)) = false := by simp
          go_wp2_with fail
          go_meet
          rw [He.out]
          exact ⟨A5, c5, rfl, hown, hbl⟩
        · have e1 : min zs.length 40 = 40 := by omega
          rw [e1] at hown ⊢
          have He := hide e1
          clear e1 hi hlt
          go_wp2_with fail
          all_goals
            go_meet
            rw [He.out]
            exact ⟨A5, c5, rfl, hown, hbl⟩
  case rest =>
    clear hbl3
    obtain ⟨A5, c5, rfl, hown, hbl⟩ := hcut
    have hM40 : min zs.length 40 ≤ 40 := by omega
    generalize min zs.length 40 = M at *
    have hown' : wc.ownsRow w.heap.size 3 1 (.slice A5 M c5) M ((tab M (pg zs)).map (Value.int .i64)) := by rw [← tabV_ints]; exact hown
    have hr5 := RdI.of_own hown'
    have hzt : ∀ i, i < M → ix (tab M (pg zs)) i = pg zs i := fun i hi => tab_ix _ hi
    have hor := order_ok A5 c5 (tab M (pg zs)) C collate back wc hr5 (by rw [tab_length]; exact hM40) (fun i hi => by rw [tab_length] at hi; rw [hzt i hi]; exact pg_bd zs i) (by omega) (by omega)
    rw [tab_length] at hor
    unfold OrdPost at hor
    simp only [tab_length] at hor
    have hN200 : M * C ≤ 200 := by
      have : M * C ≤ 40 * 5 := Nat.mul_le_mul hM40 (by omega)
      omega
    have hCM : (C : Int) * (M : Int) = ((M * C : Nat) : Int) := by rw [Int.natCast_mul]; exact Int.mul_comm _ _
    have hxp : ∀ i, i < M * C → 1 ≤ ord (ix (tab M (pg zs))) M C collate back i ∧ ord (ix (tab M (pg zs))) M C collate back i ≤ 60 := fun i hi => by
      unfold ord
      rw [hzt _ (ii_bd (po_bd hi).1)]
      exact pg_bd zs _
    have hcount := hide (sorted_same (counts (ix (tab M (pg zs))) M C collate back R L back (by omega) (by omega) (by omega) (fun k hk => by rw [hzt k hk]; have := pg_bd zs k; omega)))
    have hxp' := hide hxp
    have hor' := hide hor
    have hm1 : 1 ≤ R * L := Nat.mul_pos (by omega) (by omega)
    have hm16 : R * L ≤ 16 := Nat.mul_le_mul (show R ≤ 4 by omega) (show L ≤ 4 by omega)
    have hrow : Hid (tabV M (fun i => Value.int .i64 (pg zs i)) = ((List.range M).map (pg zs)).map (Value.int .i64)) := row_map M (pg zs)
    have hcops := hide (fun k => show cop (ix (tab M (pg zs))) M (k + 1) = cop (ix (tab M (pg zs))) M k ++ (List.range M).map (pg zs) from by
      rw [cop]
      congr 1
      exact List.map_congr_left (fun i hi => hzt i (List.mem_range.1 hi)))
    have hcopl := hide (fun k => show (cop (ix (tab M (pg zs))) M k).length = M * k from by rw [cop_eq]; simp)
    clear hor hxp hzt hown'
    generalize hX : ord (ix (tab M (pg zs))) M C collate back = X at *
    generalize hW : ix (tab M (pg zs)) = W at *
    have HX := hide hX
    have HW := hide hW
    clear hX hW
    generalize hNN : M * C = N at *
    have HN := hide hNN
    clear hNN
    go_wp2_with (first | (go_at_call 9; first | ((with_reducible refine (hwx.out _).mono ?_); rintro e w4 ⟨rfl, rfl⟩) | ((with_reducible refine (hwy.out _).mono ?_); rintro e w4 ⟨rfl, rfl⟩) | ((with_reducible refine (hwz.out _).mono ?_); rintro e w4 ⟨rfl, rfl⟩)))
    refine hor'.out.mono ?_
    rintro e w6 ⟨A6, c6, rfl, hown6, hb6⟩
    have hbl6 := hbl.trans (hb6.mono hbl.size)
    have hown5 := own_below hown hb6
    have hown6' : w6.ownsRow wc.heap.size 3 1 (.slice A6 N c6) N ((tab N X).map (Value.int .i64)) := by rw [← tabV_ints]; exact hown6
    have hse := hide (several_ok A6 c6 N R L X back w6 (RdI.of_own hown6') hN200 hxp'.out (by omega) (by omega) (by omega) (by omega))
    clear hor' hown hown6 hown6' hb6 hbl hr5 hwx hwy hwz
    go_wp2_with fail
    refine hse.out.mono ?_
    rintro e w7 ⟨A7, c7, Af, cf, rfl, hs⟩
    have hbl7 := hbl6.trans (hs.bel.mono hbl6.size)
    have hown7 := own_below hown5 hs.bel
    have hS : cd (R * L) N ≤ N + 1 := by
      unfold cd
      exact Nat.div_le_of_le_mul (by rw [Nat.mul_add]; have := Nat.le_mul_of_pos_left N hm1; omega)
    have hsd := hide (fun s e => show sd X R L back N s e = sd X R L back N s e from rfl)
    clear hse hown5 hbl6 hsd
    generalize hmm : R * L = m at *
    have HM := hide hmm
    clear hmm
    generalize hSS : cd m N = S at *
    have HS := hide hSS
    clear hSS
    go_wp2_with fail
    go_loopw [21, 97] (fun a b wr => ∃ (s : Nat) (Aa : Option Addr) (ca : Nat), s ≤ S ∧ b = .int .i64 s ∧ a = .slice Aa (allS X R L back N s).length ca ∧ (allS X R L back N s).length ≤ s * 16 ∧ wr.ownsRow w7.heap.size 3 1 (.slice Aa (allS X R L back N s).length ca) (allS X R L back N s).length ((allS X R L back N s).map (Value.int .i64)) ∧ Below w7.heap.size w7 wr) (fun _ b _ => S - (intOf b).toNat)
    case atStart => exact ⟨0, none, 0, by omega, rfl, rfl, by simp [allS], World.ownsRow_nil _ _ _ _, Below.refl _ _⟩
    case round =>
      obtain ⟨s, Aa, ca, hsS, rfl, rfl, hlen, hown, hbl⟩ := hrel
      obtain ⟨wo, rfl⟩ : ∃ wo : World, wo = wr := ⟨_, rfl⟩
      by_cases hlt : s < S
      · obtain ⟨go, rfl, hgo⟩ := own_at hs.out (by omega)
        obtain ⟨g, hAg, hgg⟩ := own_at (hs.inn s hlt) (by omega)
        have ko := own_cell (own_below hs.out hbl) hlt
        rw [hAg] at ko
        have hin := hs.inn s hlt
        rw [hAg] at hin
        have hall0 : allS X R L back N s = allS X R L back N s ++ ((List.range 0).map (sd X R L back N s)).filter (fun z => decide (0 < z)) := by simp
        have hallS := hide (show allS X R L back N (s + 1) = allS X R L back N s ++ ((List.range m).map (sd X R L back N s)).filter (fun z => decide (0 < z)) from by rw [allS, HM.out])
        have s1 : (s : Int) < (S : Int) := by omega
        generalize hLs : allS X R L back N s = Ls at *
        have HLs := hide hLs
        clear hLs
        generalize sd X R L back N s = f at *
        go_wp2_with fail
        go_loopw [21, 103] (fun a b wr => ∃ (e : Nat) (Aa : Option Addr) (ca : Nat) (L2 : List Int), e ≤ m ∧ b = .int .i64 e ∧ a = .slice Aa L2.length ca ∧ Hid (L2 = Ls ++ ((List.range e).map f).filter (fun z => decide (0 < z))) ∧ L2.length ≤ s * 16 + e ∧ wr.ownsRow w7.heap.size 3 1 (.slice Aa L2.length ca) L2.length (L2.map (Value.int .i64)) ∧ Below w7.heap.size w7 wr) (fun _ b _ => m - (intOf b).toNat)
        case atStart => exact ⟨0, Aa, ca, Ls, by omega, rfl, rfl, hall0, by omega, hown, hbl⟩
        case round =>
          clear hown hbl hall0
          obtain ⟨e, Aa, ca, L2, he, rfl, rfl, hL2, hlen2, hown, hbl⟩ := hrel
          by_cases hle : e < m
          · have ke := own_cell (own_below hin hbl) hle
            have e1 : (e : Int) < (m : Int) := by omega
            have hstep := hide (show ((List.range (e + 1)).map f).filter (fun z => decide (0 < z)) = ((List.range e).map f).filter (fun z => decide (0 < z)) ++ (if 0 < f e then [f e] else []) from by
              rw [List.range_succ, List.map_append, List.filter_append]
              congr 1
              by_cases h : 0 < f e <;> simp [h])
            generalize hv : f e = v at *
            have Hv := hide hv
            clear hv
            by_cases hv0 : 0 < v
            · have d0 : decide (v > 0) = true := by simpa using hv0
              have hst := hide (hstep.out.trans (by rw [if_pos hv0]))
              have ho5 := hown.alloc (.cells #[.int .i64 v] 3)
              have hb5 := hbl.alloc hbl.size (.cells #[.int .i64 v] 3)
              have hlw : L2.length ≤ 4000 := by omega
              clear hv0 hstep
              go_wp2_with (at_builtin; refine wpL_append (size := 1) rfl rfl Try.underlying22 int_info rfl (by decide) rfl rfl ho5 (news_at _ _ _ _ rfl) rfl (by simp [Value.oneCell']) (by omega) (by omega) (by have := hb5.size; omega) ?_; intro v6 w6 hown6 hgrow6)
              obtain ⟨A8, c8, rfl⟩ := own_form hown6
              refine ⟨⟨e + 1, A8, c8, L2 ++ [v], by omega, by simp, by simp, ?_, by simp; omega, ?_, below_app hb5 hb5.size ho5 hgrow6⟩, by simp only [intOf]; omega⟩
              · show L2 ++ [v] = _
                rw [hst.out, hL2.out, List.append_assoc]
              · rw [List.length_append, List.map_append]
                exact hown6
            · have d0 : decide (v > 0) = false := by simpa using hv0
              have hst := hide (hstep.out.trans (by rw [if_neg hv0, List.append_nil]))
              clear hv0 hstep
              go_wp2_with fail
              go_roundw
              case rel => exact ⟨e + 1, Aa, ca, L2, by omega, by go_num, rfl, by show L2 = _; rw [hst.out, ← hL2.out], by omega, hown, hbl⟩
              case measure => simp [intOf]; omega
          · obtain rfl : e = m := by omega
            go_wp2_with fail
            go_roundw
            case rel =>
              have h1 : allS X R L back N (s + 1) = L2 := by rw [hallS.out, hL2.out]
              exact ⟨s + 1, Aa, ca, by omega, by go_num, by rw [h1], by rw [h1]; omega, by rw [h1]; exact hown, hbl⟩
            case measure => simp [intOf]; omega
      · obtain rfl : s = S := by omega
        clear hs
        have hbl8 := hbl7.trans (hbl.mono hbl7.size)
        have hsz7 := hbl.size
        have hsz77 := hbl7.size
        have ho8 := own_below hown7 hbl
        generalize hLA : allS X R L back N s = La at *
        have HLA := hide hLA
        clear hLA hbl7 hown7 hbl
        go_upto_block 6 with fail
        go_cut [26] (fun a wc => ∃ (Aw : Option Addr) (cw : Nat), a = .slice Aw (cop W M C).length cw ∧ wc.ownsRow wo.heap.size 3 1 (.slice Aw (cop W M C).length cw) (cop W M C).length ((cop W M C).map (Value.int .i64)) ∧ Below wo.heap.size wo wc)
        case first =>
          rcases ho8.2 with ⟨hv5, hM0⟩ | ⟨g5, cap5, cur5, hv5, _⟩
          · injection hv5 with h1 h2 h3
            subst h1 h3
            subst hM0
            go_wp2_with fail
            go_loopw [26, 116] (fun a b wr2 => ∃ (k : Nat), k ≤ C ∧ b = .int .i64 k ∧ a = .slice none 0 0 ∧ wo = wr2) (fun _ b _ => C - (intOf b).toNat)
            case atStart => exact ⟨0, by omega, rfl, rfl, rfl⟩
            case round =>
              obtain ⟨k, hk, rfl, rfl, rfl⟩ := hrel
              by_cases hkC : k < C
              · have s1 : (k : Int) < (C : Int) := by omega
                go_wp2_with fail
                go_roundw
                case rel => exact ⟨k + 1, by omega, by go_num, rfl, trivial⟩
                case measure => simp [intOf]; omega
              · go_wp2_with fail
                go_meet
                have h0 : cop W 0 C = [] := by
                  have := hcopl.out C
                  rw [Nat.zero_mul] at this
                  exact List.eq_nil_of_length_eq_zero this
                exact ⟨none, 0, by rw [h0]; rfl, by rw [h0]; exact World.ownsRow_nil _ _ _ _, Below.refl _ _⟩
          · injection hv5 with h1 h2 h3
            subst h1 h3
            have hrow5 := hrow.out
            rw [hrow5] at ho8
            have hcell5 : ∀ (j : Nat) (u : Value), (((List.range M).map (pg zs)).map (Value.int .i64))[j]? = some u → wo.cell? ((⟨g5, 0, none⟩ : Addr).add j) = some u := fun j u hu => ho8.cells (g := g5) rfl j u hu
            have hc5 := hide hcell5
            clear hcell5 hrow5
            go_wp2_with fail
            go_loopw [26, 116] (fun a b wr2 => ∃ (k : Nat) (Aw : Option Addr) (cw : Nat), k ≤ C ∧ b = .int .i64 k ∧ a = .slice Aw (M * k) cw ∧ wr2.ownsRow wo.heap.size 3 1 (.slice Aw (M * k) cw) (M * k) ((cop W M k).map (Value.int .i64)) ∧ Below wo.heap.size wo wr2) (fun _ b _ => C - (intOf b).toNat)
            case atStart => exact ⟨0, none, 0, by omega, rfl, rfl, World.ownsRow_nil _ _ _ _, Below.refl _ _⟩
            case round =>
              obtain ⟨k, Aw, cw, hk, rfl, rfl, hown, hbl⟩ := hrel
              by_cases hkC : k < C
              · have s1 : (k : Int) < (C : Int) := by omega
                have hMk : M * k ≤ 200 := by
                  have : M * k ≤ 40 * 5 := Nat.mul_le_mul hM40 (by omega)
                  omega
                have hc6 : ∀ (j : Nat) (u : Value), (((List.range M).map (pg zs)).map (Value.int .i64))[j]? = some u → wr.cell? ((⟨g5, 0, none⟩ : Addr).add j) = some u := fun j u hu => by
                  have h1 := hc5.out j u hu
                  exact (hbl.cell (World.block_lt_of_cell? _ _ h1)).trans h1
                have Hc6 := hide hc6
                clear hc6
                have hnx := hide (show M * k + M = M * (k + 1) from by rw [Nat.mul_succ])
                generalize hq : M * k = q at *
                have Hq := hide hq
                clear hq
                go_wp2_with (at_builtin; refine wpL_append (size := 1) rfl rfl Try.underlying22 int_info rfl (by decide) rfl rfl hown Hc6.out (by simp) (fun u hu => by obtain ⟨z, _, rfl⟩ := List.mem_map.1 hu; rfl) (by omega) (by omega) hbl.size ?_; intro v6 w6 hown6 hgrow6)
                obtain ⟨A8, c8, rfl⟩ := own_form hown6
                refine ⟨⟨k + 1, A8, c8, by omega, by simp, by rw [hnx.out], ?_, below_app hbl hbl.size hown hgrow6⟩, by simp only [intOf]; omega⟩
                rw [← hnx.out, hcops.out k, List.map_append]
                exact hown6
              · obtain rfl : k = C := by omega
                have hlen := hide (hcopl.out k)
                go_wp2_with fail
                go_meet
                exact ⟨Aw, cw, by rw [hlen.out], by rw [hlen.out]; exact hown, hbl⟩
        case rest =>
          obtain ⟨Aw, cw, rfl, how, hbw⟩ := hcut
          have hall1 := own_below hown hbw
          have hlw : (cop W M C).length ≤ 200 := by rw [hcopl.out, HN.out]; exact hN200
          have hap := own_apart hown how (Nat.le_refl _)
          have hs1 := hide (sort_own rfl hall1 (by omega))
          have hszw := hbw.size
          have hb9 := hbl8.trans (hbw.mono hbl8.size)
          clear hown hbw ho8
          go_wp2_with fail
          refine hs1.out.mono ?_
          rintro e w9 ⟨rfl, hall2, hg9⟩
          have how2 := how.kept hg9 hap.2
          have hb10 : Below w.heap.size w w9 := hb9.grown hg9 hb9.size (fun k hk => by have := (hall1.lt k hk).1; omega)
          have hs2 := hide (sort_own rfl how2 (by omega))
          clear hs1 hg9 how hall1 hb9
          go_wp2_with fail
          refine hs2.out.mono ?_
          rintro e w11 ⟨rfl, how3, hg11⟩
          have hall3 := hall2.kept hg11 hap.1
          have hb11 : Below w.heap.size w w11 := hb10.grown hg11 hb10.size (fun k hk => by have := (how2.lt k hk).1; have := hbl8.size; omega)
          have hc1 := hcount.out
          rw [hc1] at hall3
          have hl1 : La.length = (cop W M C).length := by
            have h := congrArg List.length hc1
            rw [List.length_mergeSort, List.length_mergeSort] at h
            exact h
          have hl2 : ((cop W M C).mergeSort fun x y => decide (x ≤ y)).length = (cop W M C).length := List.length_mergeSort _
          have hreq : Hid (Calls Try.prog 8 #[.slice Aa La.length ca, .slice Aw (cop W M C).length cw] w11 fun e w' => e = .returned (.bool true) ∧ ∃ d, w' = w11.drewN d) := by
            have h := Scl.equal_any Aa Aw ca cw ((cop W M C).mergeSort fun x y => decide (x ≤ y)) ((cop W M C).mergeSort fun x y => decide (x ≤ y)) w11 (RdI.of_own hall3) (RdI.of_own how3) (by omega) (by omega)
            rw [hl2] at h
            rw [hl1]
            exact h.mono (fun e w' ⟨h1, h2⟩ => ⟨by rw [h1]; simp, h2⟩)
          clear hs2 hg11 hall2 how2 hall3 how3 hap hc1 hl1 hl2
          go_wp2_with fail
          refine hreq.out.mono ?_
          rintro e w12 ⟨rfl, d, rfl⟩
          have hb12 := below_drewN hb11 d
          go_wp2_with fail
          go_ret
          exact ⟨rfl, hb12⟩

theorem walked : Walked Try.checked.prog 3 Try.f3 := by
  intro H enc W args ds ps hval hA
  rw [Try.params3] at hA hval
  obtain ⟨v0, l0, d0, m0, p0, q0, e0, _, h0, k0⟩ := Go.Frm.trodAll_cons hA
  obtain ⟨v1, l1, d1, m1, p1, q1, rfl, _, h1, k1⟩ := Go.Frm.trodAll_cons k0
  obtain ⟨v2, l2, d2, m2, p2, q2, rfl, _, h2, k2⟩ := Go.Frm.trodAll_cons k1
  obtain ⟨v3, l3, d3, m3, p3, q3, rfl, _, h3, k3⟩ := Go.Frm.trodAll_cons k2
  obtain ⟨v4, l4, d4, m4, p4, q4, rfl, _, h4, k4⟩ := Go.Frm.trodAll_cons k3
  obtain ⟨v5, l5, d5, m5, p5, q5, rfl, _, h5, k5⟩ := Go.Frm.trodAll_cons k4
  obtain rfl := Go.Frm.trodAll_nil k5
  obtain rfl : args = #[v0, v1, v2, v3, v4, v5] := by cases args; simp_all
  obtain ⟨x, rfl, _, _, wx⟩ := open_int Try.underlying3 (hval 1 _ _ rfl rfl) h1
  obtain ⟨bc, rfl, _, _⟩ := open_bool Try.underlying4 (hval 2 _ _ rfl rfl) h2
  obtain ⟨bb, rfl, _, _⟩ := open_bool Try.underlying4 (hval 3 _ _ rfl rfl) h3
  obtain ⟨y, rfl, _, _, wy⟩ := open_int Try.underlying3 (hval 4 _ _ rfl rfl) h4
  obtain ⟨z, rfl, _, _, wz⟩ := open_int Try.underlying3 (hval 5 _ _ rfl rfl) h5
  obtain ⟨A, c, zs, rfl, hr, hn, hwf⟩ := ints_arg Try.underlying22 Try.underlying3 (by kernel_rfl) (hval 0 _ _ rfl rfl) h0
  exact walk A c zs x bc bb y z W hr hn hwf wx wy wz

theorem lifted (os : Os) (started : os.Started) (H : Type) (enc : TypeId × Value → H) :
    ReturnsInHanded {} Try.checked os 3 .any (Rows.printingCountsSpec.pre6 enc Try.prog Try.f3 Rows.printingCountsRow.domain false) (Rows.printingCountsSpec.post enc Try.prog Try.f3 false true false false) :=
  law_lift (C := Try.checked) (tb := 4) (by kernel_rfl) started (by kernel_rfl) Try.func3 rfl
    (fun ds h => match ds, h with | [_, _, _, _, _, _], _ => rfl) rfl Try.underlying4 (by kernel_rfl) (by kernel_rfl)
    (ChangeSpec.witness6 (enc := enc) (C := Try.checked) false ⟨#[], #[.slice none 0 0, .int .i64 0, .bool false, .bool false, .int .i64 0, .int .i64 0], []⟩ 8 (by kernel_rfl) (by kernel_rfl) (by kernel_rfl) (by kernel_rfl))
    walked

/-- THE STATEMENT -/
theorem proved : Rows.PrintingCountsSaid :=
  OpenClaim.holds_of_wide 3 Try.f3 rfl rfl rfl rfl rfl rfl rfl ⟨rfl, rfl, rfl, rfl, rfl⟩ rfl rfl rfl rfl rfl (by kernel_rfl) Try.func3 (by kernel_rfl)
    (of_decide_eq_true (by kernel_rfl)) (by unfold Func.isWrapper; first | (rw [if_pos (by decide +kernel)]; kernel_rfl) | (rw [if_neg (by decide +kernel)]; exact ⟨rfl, rfl⟩))
    (fun os started H enc _ => lifted os started H enc)
#print axioms proved
end Go.Proofs.Ytlipdhoeklgdoaa.PrintingCountsDone
