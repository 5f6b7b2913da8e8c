/- The shapes of a slide are all shown, in their order; what a slide uses is not missing. No condition. -/
import Derived.Test.YtnmikhmbnpiadaaMsShow
import Derived.Test.YtnmikhmbnpiadaaMsArgs
import Derived.Test.YtnmikhmbnpiadaaRows
import Derived.Test.YtnmikhmbnpiadaaChecked
namespace Go.Proofs.Ytnmikhmbnpiadaa.MasterKeepsOwnDone
open Go.ChangeShapes Go.WideShapes Go.ChangeAt Go.RowKit Go.Frm Go.Maps Go.WideMaps Wi Shp Ms


def plx : ByteArray := ⟨#[112, 108, 97, 99, 101, 46, 120]⟩
def Gc (_ j : Nat) : Int := if j = 0 then 1 else 0
def Tc (_ j : Nat) : ByteArray := if j = 10 then plx else ⟨#[]⟩
theorem gc_ok : ShOk Gc 1 where
  few := by omega
  item i hi := by show (1 : Int) ≤ 1 ∧ (1 : Int) ≤ 1073741824; omega
  one j i hj hi := by omega
  par i hi := by show (0 : Int) ≤ 0 ∧ (0 : Int) ≤ 1073741824; omega
  kind i hi := by show (0 : Int) ≤ 0 ∧ (0 : Int) ≤ 7; omega
  xy i hi := by show ((-1048576 : Int) ≤ 0 ∧ (0 : Int) ≤ 1048576) ∧ ((-1048576 : Int) ≤ 0 ∧ (0 : Int) ≤ 1048576); omega
  wh i hi := by show ((0 : Int) ≤ 0 ∧ (0 : Int) ≤ 1048576) ∧ ((0 : Int) ≤ 0 ∧ (0 : Int) ≤ 1048576); omega
  turn i hi := by show (0 : Int) ≤ 0 ∧ (0 : Int) < 3600; omega
  ft i hi := by show ((0 : Int) ≤ 0 ∧ (0 : Int) ≤ 1073741824) ∧ ((0 : Int) ≤ 0 ∧ (0 : Int) ≤ 1073741824); omega
  link i hi h := ⟨rfl, rfl⟩
  grp i hi := .inl rfl
theorem gc_none (G : Nat → Nat → Int) : ShOk G 0 where
  few := by omega
  item i hi := by omega
  one j i hj hi := by omega
  par i hi := by omega
  kind i hi := by omega
  xy i hi := by omega
  wh i hi := by omega
  turn i hi := by omega
  ft i hi := by omega
  link i hi := by omega
  grp i hi := by omega
theorem room_plx : roomB plx = true := by decide +kernel
theorem miss_c (G : Nat → Nat → Int) (T : Nat → Nat → ByteArray) : missL roomB (usedB G T 0) Gc Tc 1 = [plx] := by
  unfold missL missL
  rw [if_pos ⟨rfl, room_plx, rfl⟩]
  rfl

/-- the names of the master, of the first i shapes changed -/
def onT (nam : ByteArray) (T : Nat → Nat → ByteArray) (i : Nat) (a b : Nat) : ByteArray := if a < i ∧ b = 10 ∧ a % 2 = 0 ∧ nam.size < 100 then ⟨#[112, 108, 97, 99, 101, 46]⟩ ++ nam else T a b

theorem onT_odd {nam : ByteArray} {G : Nat → Nat → Int} {T : Nat → Nat → ByteArray} {i : Nat} (h : ¬ i % 2 = 0) (a b : Nat) : shV G (onT nam T (i + 1)) a b = shV G (onT nam T i) a b := by
  unfold shV onT
  by_cases ha : a = i
  · subst ha; simp [h]
  · have h1 : a < i + 1 ↔ a < i := by omega
    simp only [h1]
theorem onT_long {nam : ByteArray} {G : Nat → Nat → Int} {T : Nat → Nat → ByteArray} {i : Nat} (h : ¬ nam.size < 100) (a b : Nat) : shV G (onT nam T (i + 1)) a b = shV G (onT nam T i) a b := by
  unfold shV onT
  simp [h]
theorem onT_yes {nam : ByteArray} {G : Nat → Nat → Int} {T : Nat → Nat → ByteArray} {i : Nat} (h : i % 2 = 0) (hs : nam.size < 100) (a b : Nat) : shV G (onT nam T (i + 1)) a b = upd2 (shV G (onT nam T i)) i 10 (.string (⟨#[112, 108, 97, 99, 101, 46]⟩ ++ nam)) a b := by
  unfold shV onT upd2
  by_cases ha : a = i
  · subst ha
    by_cases hb : b = 10
    · subst hb; simp [h, hs]
    · simp [hb]
  · have h1 : a < i + 1 ↔ a < i := by omega
    simp [h1, ha]

set_option maxRecDepth 100000 in
set_option maxHeartbeats 8000000 in
theorem walk (As : Option Addr) (ns cs : Nat) (Gs : Nat → Nat → Int) (Ts : Nat → Nat → ByteArray) (Am : Option Addr) (nm cm : Nat) (Gm : Nat → Nat → Int) (Tm : Nat → Nat → ByteArray) (nam : ByteArray) (w : World)
    (hrs : RdF w As ns 12 (shV Gs Ts)) (hns : ns ≤ 9223372036854775807) (hws : ∀ i j, i < ns → j < 10 → (Lit.int .i64 (Gs i j)).wf = true) (hls : ∀ i, i < ns → (Ts i 10).size ≤ maxLen)
    (hrm : RdF w Am nm 12 (shV Gm Tm)) (hnm : nm ≤ 9223372036854775807) (hwm : ∀ i j, i < nm → j < 10 → (Lit.int .i64 (Gm i j)).wf = true) (hlm : ∀ i, i < nm → (Tm i 10).size ≤ maxLen) (hnam : nam.size ≤ maxLen) :
    Calls Try.prog 3 #[.slice As ns cs, .slice Am nm cm, .string nam] w fun e w' => e = .returned (.bool true) ∧ Below w.heap.size w w' := by
  have Hs := hide (fun wx (hx : RdF wx As ns 12 (shV Gs Ts)) => shapes_ok As ns cs Gs Ts true wx hx hns hws)
  have Hm := hide (fun wx (hx : RdF wx Am nm 12 (shV Gm Tm)) => shapes_ok Am nm cm Gm Tm true wx hx hnm hwm)
  have Hls := hide hls
  have Hlm := hide hlm
  have Hnam := hide hnam
  clear hns hws hls hnm hwm hlm hnam
  go_enter Try.func3, Try.ntmps3
  go_wp2_with fail
  have hb1 := (Below.refl w.heap.size w).alloc (Nat.le_refl _) (.cells (shC Gc Tc 0) 28)
  have b0 : Blk (w.alloc (.cells (shC Gc Tc 0) 28)) w.heap.size 28 (shC Gc Tc 0) := Blk.new w _ _
  have Hmi := hide (missing_ok none 0 0 Gc Tc (some ⟨w.heap.size, 0, none⟩) 1 1 Gc Tc (w.alloc (.cells (shC Gc Tc 0) 28)) (gc_none _) gc_ok (.inl rfl) (rdF_one b0) (by omega) (by omega) (fun i hi => by omega) (fun i hi => by
    show plx.size ≤ maxLen
    decide +kernel))
  rw [miss_c] at Hmi
  clear b0
  refine Hmi.out.mono ?_
  rintro e w1 ⟨A1, c1, rfl, hown1, hbl1⟩
  have hbl := hb1.trans (hbl1.mono hb1.size)
  obtain ⟨g1, rfl, -⟩ := own_at hown1 (by decide)
  have k0 : w1.cell? ⟨g1, 0, none⟩ = some (.string plx) := by
    have := hown1.cells rfl 0 (.string plx) rfl
    exact this
  simp only [List.length_singleton] at k0 ⊢
  unfold plx at k0
  have hr1 := hrs.below hbl
  have hr2 := hrm.below hbl
  clear hown1 hb1 hbl1 Hmi hrs hrm
  go_wp2_with fail
  refine (Hs.out w1 hr1).mono ?_
  rintro e w2 ⟨A2, c2, rfl, hown2, hb2⟩
  have hbl2 := hbl.trans (hb2.mono hbl.size)
  have hr3 := hr2.below hb2
  have hsl := RdF.of_own hown2
  have hc2 := (own_cap hown2).1
  have hn1 : min ns 10 ≤ 10 := Nat.min_le_right _ _
  have Hls2 := hide (show ∀ i, i < min ns 10 → (shT Ts i 10).size ≤ maxLen from fun i hi => Hls.out i (by omega))
  have Ho1 := hide (made_ok Gs true hn1)
  generalize min ns 10 = n1 at *
  clear hown2 hr1 hr2 hbl hb2 Hs Hls
  go_wp2_with fail
  refine (Hm.out w2 hr3).mono ?_
  rintro e w3 ⟨A3, c3, rfl, hown3, hb3⟩
  have hc3 := (own_cap hown3).1
  have hn2 : min nm 10 ≤ 10 := Nat.min_le_right _ _
  have Hlm2 := hide (show ∀ i, i < min nm 10 → (shT Tm i 10).size ≤ maxLen from fun i hi => Hlm.out i (by omega))
  have Ho2 := hide (made_ok Gm true hn2)
  generalize min nm 10 = n2 at *
  generalize shG Gs true = G1 at *
  generalize shT Ts = T1 at *
  generalize shG Gm true = G2 at *
  generalize shT Tm = T2 at *
  clear hr3 Hm Hlm
  go_wp2_with fail
  go_loopw [43] (fun b wr => ∃ i : Nat, i ≤ n2 ∧ b = .int .i64 i ∧ wr.ownsRow w2.heap.size 28 12 (.slice A3 n2 c3) n2 (rowF n2 12 (shV G2 (onT nam T2 i))) ∧ Below w2.heap.size w2 wr) (fun b _ => n2 - (intOf b).toNat)
  case atStart => exact ⟨0, by omega, rfl, by rw [rowF_congr (g := shV G2 T2) (fun a b _ _ => by simp [onT, shV])]; exact hown3, hb3⟩
  case round =>
    clear hown3 hb3
    obtain ⟨i, hi, rfl, hown, hbl⟩ := hrel
    by_cases hlt : i < n2
    · obtain ⟨g2, rfl, hg2a, hg2b, hcc, hz2⟩ := own_addr hown (by omega)
      have k10 : wr.cell? ⟨g2, i * 12 + 10, none⟩ = some (.string (T2 i 10)) := by
        rw [own_cellF hown hlt (show 10 < 12 by omega)]
        simp [shV, onT]
      have z10 := hz2 (i * 12 + 10)
      have Hown := hide hown
      have Hbl := hide hbl
      have Hg := hide hg2a
      clear hz2 hown hbl hg2b hcc hg2a
      by_cases he : i % 2 = 0
      · have d0 : ((i : Int) % 2 == 0) = true := by simp; omega
        have HE := hide he
        clear he
        by_cases hs : nam.size < 100
        · have d1 : decide ((nam.size : Int) < 100) = true := by simp; omega
          have d2 : ¬ 9223372036854775807 < 6 + nam.size := by omega
          have HS := hide hs
          clear hs
          go_wp2_with fail
          exact ⟨⟨i + 1, by omega, by simp, by
            have := own_storeF Hown.out i (show 10 < 12 by omega) (.string (⟨#[112, 108, 97, 99, 101, 46]⟩ ++ nam))
            rw [← rowF_congr (fun a b _ _ => onT_yes HE.out HS.out a b)] at this
            exact this, Hbl.out.setCell (p := ⟨g2, i * 12 + 10, none⟩) Hg.out _⟩, by simp only [intOf]; omega⟩
        · have d1 : decide ((nam.size : Int) < 100) = false := by simp; omega
          have HS := hide hs
          clear hs
          go_wp2_with fail
          go_roundw
          case rel => exact ⟨i + 1, by omega, by go_num, by rw [rowF_congr (g := shV G2 (onT nam T2 i)) (fun a b _ _ => onT_long HS.out a b)]; exact Hown.out, Hbl.out⟩
          case measure => simp [intOf]; omega
      · have d0 : ((i : Int) % 2 == 0) = false := by simp; omega
        have HE := hide he
        clear he
        go_wp2_with fail
        go_roundw
        case rel => exact ⟨i + 1, by omega, by go_num, by rw [rowF_congr (g := shV G2 (onT nam T2 i)) (fun a b _ _ => onT_odd HE.out a b)]; exact Hown.out, Hbl.out⟩
        case measure => simp [intOf]; omega
    · obtain rfl : i = n2 := by omega
      go_wp2_with fail
      have Hln := hide (show ∀ j, j < i → (onT nam T2 i j 10).size ≤ maxLen from fun j hj => by
        unfold onT
        split
        · rename_i h
          have := h.2.2.2
          simp only [ByteArray.size_append, maxLen]
          have h6 : (⟨#[112, 108, 97, 99, 101, 46]⟩ : ByteArray).size = 6 := rfl
          omega
        · exact Hlm2.out j hj)
      clear Hlm2 Hnam
      generalize onT nam T2 i = T3 at *
      have hr2 := RdF.of_own hown
      have hs1 := hsl.below hbl
      have hbw := hbl2.trans (hbl.mono hbl2.size)
      clear hown hsl hbl2 hlt hi
      have HS := hide (show_ok A2 n1 c2 G1 T1 A3 i c3 G2 T3 wr Ho1.out Ho2.out hs1 hr2 hc2 hc3)
      have HM := hide (fun wx (ha : RdF wx A2 n1 12 (shV G1 T1)) (hb : RdF wx A3 i 12 (shV G2 T3)) => missing_ok A2 n1 c2 G1 T1 A3 i c3 G2 T3 wx Ho1.out Ho2.out ha hb hc2 hc3 Hls2.out Hln.out)
      clear Hls2 Hln Ho1 Ho2
      refine HS.out.mono ?_
      rintro e w4 ⟨Ab, nb, cb, Af, cf, F, rfl, hownF, hfr, hb4⟩
      have hs4 := hs1.below hb4
      have hF4 := RdF.of_own hownF
      have hHM := hide (HM.out w4 hs4 (hr2.below hb4))
      have Hfr := hide hfr
      clear hs1 hr2 hownF HS HM hfr
      go_wp2_with fail
      refine hHM.out.mono ?_
      rintro e w5 ⟨AL, cL, rfl, hownL, hb5⟩
      have hs5 := hs4.below hb5
      have hF5 := hF4.below hb5
      have hL5 := RdS.of_own hownL
      have hbl5 := (hbw.trans (hb4.mono hbw.size)).trans (hb5.mono (hbw.trans (hb4.mono hbw.size)).size)
      have hun : ∀ j, j < n1 → G1 j 1 = 0 → Lib.containsS (missL roomB (usedB G1 T1 n1) G2 T3 i) (T1 j 10) = false := fun j hj h0 => by
        cases hc : Lib.containsS (missL roomB (usedB G1 T1 n1) G2 T3 i) (T1 j 10) with
        | false => rfl
        | true =>
          have h1 := missL_unused ((Lib.containsS_iff _ _).1 hc)
          rw [usedB_of h0 hj] at h1
          cases h1
      have hLl := missL_len (room := roomB) (u := usedB G1 T1 n1) (G := G2) (T := T3) i
      generalize missL roomB (usedB G1 T1 n1) G2 T3 i = L at *
      have Hun := hide hun
      clear hs4 hF4 hHM hb4 hb5 hbw hownL hun
      go_wp2_with fail
      go_loopw [89] (fun a wr => ∃ k : Nat, k ≤ n1 ∧ a = .int .i64 k ∧ Below w5.heap.size w5 wr) (fun a _ => n1 - (intOf a).toNat)
      case atStart => exact ⟨0, by omega, rfl, Below.refl _ _⟩
      case round =>
        obtain ⟨k, hk, rfl, hbl⟩ := hrel
        have hblw := hbl5.trans (hbl.mono hbl5.size)
        by_cases hlt : k < n1
        · obtain ⟨b1, off1, rfl, k0, k1, k2, k3, k4, k5, k6, k7, k8, k9, k10, k11⟩ := cells12 (hs5.below hbl) hlt
          go_upto_region 18 with fail
          have bs : Blk (wr.alloc (.cells (shC G1 T1 k) 28)) wr.heap.size 28 (shC G1 T1 k) := Blk.new wr _ _
          have hbl1 := hbl.alloc hbl.size (.cells (shC G1 T1 k) 28)
          have hgs := hbl.size
          unfold shC at bs hbl1
          clear k0 k1 k2 k3 k4 k5 k6 k7 k8 k9 k10 k11 hbl
          generalize wr.alloc (.cells #[.int .i64 (G1 k 0), .int .i64 (G1 k 1), .int .i64 (G1 k 2), .int .i64 (G1 k 3), .int .i64 (G1 k 4), .int .i64 (G1 k 5), .int .i64 (G1 k 6), .int .i64 (G1 k 7), .int .i64 (G1 k 8), .int .i64 (G1 k 9), .string (T1 k 10), .string (T1 k 11)] 28) = wa at *
          generalize wr.heap.size = gs at *
          obtain ⟨b2, off2, rfl, k0, k1, k2, k3, k4, k5, k6, k7, k8, k9, k10, k11⟩ := cells12 (hF5.below hbl1) hlt
          go_upto_region 19 with fail
          have bt : Blk (wa.alloc (.cells (shC F T1 k) 28)) wa.heap.size 28 (shC F T1 k) := Blk.new wa _ _
          have hbl2 := hbl1.alloc hbl1.size (.cells (shC F T1 k) 28)
          have bs2 := bs.alloc (.cells (shC F T1 k) 28)
          have hne : gs ≠ wa.heap.size := by have := bs.lt; omega
          unfold shC at bt hbl2 bs2
          clear k0 k1 k2 k3 k4 k5 k6 k7 k8 k9 k10 k11 bs hbl1
          generalize wa.alloc (.cells #[.int .i64 (F k 0), .int .i64 (F k 1), .int .i64 (F k 2), .int .i64 (F k 3), .int .i64 (F k 4), .int .i64 (F k 5), .int .i64 (F k 6), .int .i64 (F k 7), .int .i64 (F k 8), .int .i64 (F k 9), .string (T1 k 10), .string (T1 k 11)] 28) = wb at *
          generalize wa.heap.size = gt at *
          have Hgs := hide hgs
          clear hgs
          have hfr := fr3 (Hfr.out k hlt)
          rcases hfr with ⟨hz, e0, e1, e2, e3, e4, e5, e6, e7, e8, e9⟩ | ⟨h5, h6, f5, f6, e0, e1, e2, e8, e9⟩ | ⟨h1, h5, h6, hz, e0, e1, e2, e8, e9⟩
          · have bsF : Blk wb gs 28 (shC F T1 k) := by
              unfold shC
              rw [e0, e1, e2, e3, e4, e5, e6, e7, e8, e9]
              exact bs2
            have btF : Blk wb gt 28 (shC F T1 k) := bt
            have E1 := hide e1
            have hzF : ¬ (F k 5 = 0 ∧ F k 6 = 0) := by rw [e5, e6]; exact hz
            clear e0 e1 e2 e3 e4 e5 e6 e7 e8 e9 hz bs2 bt
            have hbl3 := hbl2
            clear hbl2
            have s5 : wb.cell? ⟨gs, 5, none⟩ = some (.int .i64 (F k 5)) := bsF.cell 5
            have s6 : wb.cell? ⟨gs, 6, none⟩ = some (.int .i64 (F k 6)) := bsF.cell 6
            have t5 : wb.cell? ⟨gt, 5, none⟩ = some (.int .i64 (F k 5)) := btF.cell 5
            have t6 : wb.cell? ⟨gt, 6, none⟩ = some (.int .i64 (F k 6)) := btF.cell 6
            obtain ⟨wc, rfl⟩ : ∃ wc : World, wc = wb := ⟨_, rfl⟩
            by_cases c5 : F k 5 = 0
            · have d5 : (F k 5 == 0) = true := by simpa using c5
              have d6 : (F k 6 == 0) = false := by simp; exact fun h => hzF ⟨c5, h⟩
              clear c5 hzF
              go_upto_region 25 with fail
              clear d5 d6 s5 s6 t5 t6
              have p0 : wc.cell? ⟨gs, 0, none⟩ = some (.int .i64 (F k 0)) := bsF.cell 0
              have p1 : wc.cell? ⟨gs, 1, none⟩ = some (.int .i64 (F k 1)) := bsF.cell 1
              have p2 : wc.cell? ⟨gs, 2, none⟩ = some (.int .i64 (F k 2)) := bsF.cell 2
              have p3 : wc.cell? ⟨gs, 3, none⟩ = some (.int .i64 (F k 3)) := bsF.cell 3
              have p4 : wc.cell? ⟨gs, 4, none⟩ = some (.int .i64 (F k 4)) := bsF.cell 4
              have p5 : wc.cell? ⟨gs, 5, none⟩ = some (.int .i64 (F k 5)) := bsF.cell 5
              have p6 : wc.cell? ⟨gs, 6, none⟩ = some (.int .i64 (F k 6)) := bsF.cell 6
              have p7 : wc.cell? ⟨gs, 7, none⟩ = some (.int .i64 (F k 7)) := bsF.cell 7
              have p8 : wc.cell? ⟨gs, 8, none⟩ = some (.int .i64 (F k 8)) := bsF.cell 8
              have p9 : wc.cell? ⟨gs, 9, none⟩ = some (.int .i64 (F k 9)) := bsF.cell 9
              have p10 : wc.cell? ⟨gs, 10, none⟩ = some (.string (T1 k 10)) := bsF.cell 10
              have p11 : wc.cell? ⟨gs, 11, none⟩ = some (.string (T1 k 11)) := bsF.cell 11
              have q0 : wc.cell? ⟨gt, 0, none⟩ = some (.int .i64 (F k 0)) := btF.cell 0
              have q1 : wc.cell? ⟨gt, 1, none⟩ = some (.int .i64 (F k 1)) := btF.cell 1
              have q2 : wc.cell? ⟨gt, 2, none⟩ = some (.int .i64 (F k 2)) := btF.cell 2
              have q3 : wc.cell? ⟨gt, 3, none⟩ = some (.int .i64 (F k 3)) := btF.cell 3
              have q4 : wc.cell? ⟨gt, 4, none⟩ = some (.int .i64 (F k 4)) := btF.cell 4
              have q5 : wc.cell? ⟨gt, 5, none⟩ = some (.int .i64 (F k 5)) := btF.cell 5
              have q6 : wc.cell? ⟨gt, 6, none⟩ = some (.int .i64 (F k 6)) := btF.cell 6
              have q7 : wc.cell? ⟨gt, 7, none⟩ = some (.int .i64 (F k 7)) := btF.cell 7
              have q8 : wc.cell? ⟨gt, 8, none⟩ = some (.int .i64 (F k 8)) := btF.cell 8
              have q9 : wc.cell? ⟨gt, 9, none⟩ = some (.int .i64 (F k 9)) := btF.cell 9
              have q10 : wc.cell? ⟨gt, 10, none⟩ = some (.string (T1 k 10)) := btF.cell 10
              have q11 : wc.cell? ⟨gt, 11, none⟩ = some (.string (T1 k 11)) := btF.cell 11
              have Hbs := hide bsF
              have Hb3 := hide hbl3
              clear bsF btF hbl3
              by_cases c1 : F k 1 = 0
              · have d1 : (F k 1 == 0) = true := by simpa using c1
                have Hun2 := hide (Hun.out k hlt (by rw [← E1.out]; exact c1))
                have hC := contains_ok AL cL L (T1 k 10) wc (hL5.below Hb3.out) (by omega)
                rw [Hun2] at hC
                have HC := hide hC
                clear c1 hC Hun2
                go_wp2_with fail
                refine HC.out.mono ?_
                rintro e wd ⟨rfl, rfl⟩
                go_wp2_with fail
                go_roundw
                case rel => exact ⟨k + 1, by omega, by go_num, Hb3.out⟩
                case measure => simp [intOf]; omega
              · have d1 : (F k 1 == 0) = false := by simpa using c1
                clear c1
                go_wp2_with fail
                go_roundw
                case rel => exact ⟨k + 1, by omega, by go_num, Hb3.out⟩
                case measure => simp [intOf]; omega

            · have d5 : (F k 5 == 0) = false := by simpa using c5
              clear c5 hzF
              go_upto_region 25 with fail
              clear d5 s5 s6 t5 t6
              have p0 : wc.cell? ⟨gs, 0, none⟩ = some (.int .i64 (F k 0)) := bsF.cell 0
              have p1 : wc.cell? ⟨gs, 1, none⟩ = some (.int .i64 (F k 1)) := bsF.cell 1
              have p2 : wc.cell? ⟨gs, 2, none⟩ = some (.int .i64 (F k 2)) := bsF.cell 2
              have p3 : wc.cell? ⟨gs, 3, none⟩ = some (.int .i64 (F k 3)) := bsF.cell 3
              have p4 : wc.cell? ⟨gs, 4, none⟩ = some (.int .i64 (F k 4)) := bsF.cell 4
              have p5 : wc.cell? ⟨gs, 5, none⟩ = some (.int .i64 (F k 5)) := bsF.cell 5
              have p6 : wc.cell? ⟨gs, 6, none⟩ = some (.int .i64 (F k 6)) := bsF.cell 6
              have p7 : wc.cell? ⟨gs, 7, none⟩ = some (.int .i64 (F k 7)) := bsF.cell 7
              have p8 : wc.cell? ⟨gs, 8, none⟩ = some (.int .i64 (F k 8)) := bsF.cell 8
              have p9 : wc.cell? ⟨gs, 9, none⟩ = some (.int .i64 (F k 9)) := bsF.cell 9
              have p10 : wc.cell? ⟨gs, 10, none⟩ = some (.string (T1 k 10)) := bsF.cell 10
              have p11 : wc.cell? ⟨gs, 11, none⟩ = some (.string (T1 k 11)) := bsF.cell 11
              have q0 : wc.cell? ⟨gt, 0, none⟩ = some (.int .i64 (F k 0)) := btF.cell 0
              have q1 : wc.cell? ⟨gt, 1, none⟩ = some (.int .i64 (F k 1)) := btF.cell 1
              have q2 : wc.cell? ⟨gt, 2, none⟩ = some (.int .i64 (F k 2)) := btF.cell 2
              have q3 : wc.cell? ⟨gt, 3, none⟩ = some (.int .i64 (F k 3)) := btF.cell 3
              have q4 : wc.cell? ⟨gt, 4, none⟩ = some (.int .i64 (F k 4)) := btF.cell 4
              have q5 : wc.cell? ⟨gt, 5, none⟩ = some (.int .i64 (F k 5)) := btF.cell 5
              have q6 : wc.cell? ⟨gt, 6, none⟩ = some (.int .i64 (F k 6)) := btF.cell 6
              have q7 : wc.cell? ⟨gt, 7, none⟩ = some (.int .i64 (F k 7)) := btF.cell 7
              have q8 : wc.cell? ⟨gt, 8, none⟩ = some (.int .i64 (F k 8)) := btF.cell 8
              have q9 : wc.cell? ⟨gt, 9, none⟩ = some (.int .i64 (F k 9)) := btF.cell 9
              have q10 : wc.cell? ⟨gt, 10, none⟩ = some (.string (T1 k 10)) := btF.cell 10
              have q11 : wc.cell? ⟨gt, 11, none⟩ = some (.string (T1 k 11)) := btF.cell 11
              have Hbs := hide bsF
              have Hb3 := hide hbl3
              clear bsF btF hbl3
              by_cases c1 : F k 1 = 0
              · have d1 : (F k 1 == 0) = true := by simpa using c1
                have Hun2 := hide (Hun.out k hlt (by rw [← E1.out]; exact c1))
                have hC := contains_ok AL cL L (T1 k 10) wc (hL5.below Hb3.out) (by omega)
                rw [Hun2] at hC
                have HC := hide hC
                clear c1 hC Hun2
                go_wp2_with fail
                refine HC.out.mono ?_
                rintro e wd ⟨rfl, rfl⟩
                go_wp2_with fail
                go_roundw
                case rel => exact ⟨k + 1, by omega, by go_num, Hb3.out⟩
                case measure => simp [intOf]; omega
              · have d1 : (F k 1 == 0) = false := by simpa using c1
                clear c1
                go_wp2_with fail
                go_roundw
                case rel => exact ⟨k + 1, by omega, by go_num, Hb3.out⟩
                case measure => simp [intOf]; omega

          · have E1 := hide e1
            have s5 : wb.cell? ⟨gs, 5, none⟩ = some (.int .i64 0) := by rw [show wb.cell? ⟨gs, 5, none⟩ = some (.int .i64 (G1 k 5)) from bs2.cell 5, h5]
            have s6 : wb.cell? ⟨gs, 6, none⟩ = some (.int .i64 0) := by rw [show wb.cell? ⟨gs, 6, none⟩ = some (.int .i64 (G1 k 6)) from bs2.cell 6, h6]
            have t5 : wb.cell? ⟨gt, 5, none⟩ = some (.int .i64 0) := by rw [show wb.cell? ⟨gt, 5, none⟩ = some (.int .i64 (F k 5)) from bt.cell 5, f5]
            have t6 : wb.cell? ⟨gt, 6, none⟩ = some (.int .i64 0) := by rw [show wb.cell? ⟨gt, 6, none⟩ = some (.int .i64 (F k 6)) from bt.cell 6, f6]
            have t3 : wb.cell? ⟨gt, 3, none⟩ = some (.int .i64 (F k 3)) := bt.cell 3
            have t4 : wb.cell? ⟨gt, 4, none⟩ = some (.int .i64 (F k 4)) := bt.cell 4
            have t7 : wb.cell? ⟨gt, 7, none⟩ = some (.int .i64 (F k 7)) := bt.cell 7
            have s3 : wb.cell? ⟨gs, 3, none⟩ = some (.int .i64 (G1 k 3)) := bs2.cell 3
            have s4 : wb.cell? ⟨gs, 4, none⟩ = some (.int .i64 (G1 k 4)) := bs2.cell 4
            have s7 : wb.cell? ⟨gs, 7, none⟩ = some (.int .i64 (G1 k 7)) := bs2.cell 7
            have z3 : wb.frozen? ⟨gs, 3, none⟩ = false := bs2.frozen 3
            have z4 : wb.frozen? ⟨gs, 4, none⟩ = false := bs2.frozen 4
            have z7 : wb.frozen? ⟨gs, 7, none⟩ = false := bs2.frozen 7
            have hsF : shC F T1 k = (((shC G1 T1 k).set! 3 (.int .i64 (F k 3))).set! 4 (.int .i64 (F k 4))).set! 7 (.int .i64 (F k 7)) := by simp [shC, e0, e1, e2, e8, e9, h5, h6, f5, f6]
            have HsF := hide hsF
            have Bs := hide bs2
            have Bt := hide bt
            have Hb := hide hbl2
            clear hsF bs2 bt hbl2 e0 e1 e2 e8 e9 h5 h6 f5 f6
            go_upto_region 24 with fail
            go_cut [] (fun wc => Blk wc gs 28 (shC F T1 k) ∧ Blk wc gt 28 (shC F T1 k) ∧ Below w5.heap.size w5 wc)
            case first =>
              go_region_held3 (fun w' => w'.cell? ⟨gt, 3, none⟩ = some (.int .i64 (F k 3)) ∧ w'.cell? ⟨gt, 4, none⟩ = some (.int .i64 (F k 4)) ∧ w'.cell? ⟨gt, 7, none⟩ = some (.int .i64 (F k 7)))
                (first | go_keep | exact ⟨t3, t4, t7⟩) (fail)
              all_goals
                go_wp2_with fail
                go_meet
                have hn3 : gt ≠ gs := fun h => hne h.symm
                exact ⟨blk_cells HsF.out.symm ((((Bs.out.drewN 1).set_ 3 _).set_ 4 _).set_ 7 _), (((Bt.out.drewN 1).far (p := ⟨gs, 3, none⟩) hn3 _).far (p := ⟨gs, 4, none⟩) hn3 _).far (p := ⟨gs, 7, none⟩) hn3 _, (((below_drewN Hb.out 1).setCell (p := ⟨gs, 3, none⟩) Hgs.out _).setCell (p := ⟨gs, 4, none⟩) Hgs.out _).setCell (p := ⟨gs, 7, none⟩) Hgs.out _⟩
            case rest =>
              obtain ⟨bsF, btF, hbl3⟩ := hcut
              clear Bs Bt Hb HsF s3 s4 s5 s6 s7 t3 t4 t5 t6 t7 z3 z4 z7
              go_upto_region 25 with fail
              have p0 : wc.cell? ⟨gs, 0, none⟩ = some (.int .i64 (F k 0)) := bsF.cell 0
              have p1 : wc.cell? ⟨gs, 1, none⟩ = some (.int .i64 (F k 1)) := bsF.cell 1
              have p2 : wc.cell? ⟨gs, 2, none⟩ = some (.int .i64 (F k 2)) := bsF.cell 2
              have p3 : wc.cell? ⟨gs, 3, none⟩ = some (.int .i64 (F k 3)) := bsF.cell 3
              have p4 : wc.cell? ⟨gs, 4, none⟩ = some (.int .i64 (F k 4)) := bsF.cell 4
              have p5 : wc.cell? ⟨gs, 5, none⟩ = some (.int .i64 (F k 5)) := bsF.cell 5
              have p6 : wc.cell? ⟨gs, 6, none⟩ = some (.int .i64 (F k 6)) := bsF.cell 6
              have p7 : wc.cell? ⟨gs, 7, none⟩ = some (.int .i64 (F k 7)) := bsF.cell 7
              have p8 : wc.cell? ⟨gs, 8, none⟩ = some (.int .i64 (F k 8)) := bsF.cell 8
              have p9 : wc.cell? ⟨gs, 9, none⟩ = some (.int .i64 (F k 9)) := bsF.cell 9
              have p10 : wc.cell? ⟨gs, 10, none⟩ = some (.string (T1 k 10)) := bsF.cell 10
              have p11 : wc.cell? ⟨gs, 11, none⟩ = some (.string (T1 k 11)) := bsF.cell 11
              have q0 : wc.cell? ⟨gt, 0, none⟩ = some (.int .i64 (F k 0)) := btF.cell 0
              have q1 : wc.cell? ⟨gt, 1, none⟩ = some (.int .i64 (F k 1)) := btF.cell 1
              have q2 : wc.cell? ⟨gt, 2, none⟩ = some (.int .i64 (F k 2)) := btF.cell 2
              have q3 : wc.cell? ⟨gt, 3, none⟩ = some (.int .i64 (F k 3)) := btF.cell 3
              have q4 : wc.cell? ⟨gt, 4, none⟩ = some (.int .i64 (F k 4)) := btF.cell 4
              have q5 : wc.cell? ⟨gt, 5, none⟩ = some (.int .i64 (F k 5)) := btF.cell 5
              have q6 : wc.cell? ⟨gt, 6, none⟩ = some (.int .i64 (F k 6)) := btF.cell 6
              have q7 : wc.cell? ⟨gt, 7, none⟩ = some (.int .i64 (F k 7)) := btF.cell 7
              have q8 : wc.cell? ⟨gt, 8, none⟩ = some (.int .i64 (F k 8)) := btF.cell 8
              have q9 : wc.cell? ⟨gt, 9, none⟩ = some (.int .i64 (F k 9)) := btF.cell 9
              have q10 : wc.cell? ⟨gt, 10, none⟩ = some (.string (T1 k 10)) := btF.cell 10
              have q11 : wc.cell? ⟨gt, 11, none⟩ = some (.string (T1 k 11)) := btF.cell 11
              have Hbs := hide bsF
              have Hb3 := hide hbl3
              clear bsF btF hbl3
              by_cases c1 : F k 1 = 0
              · have d1 : (F k 1 == 0) = true := by simpa using c1
                have Hun2 := hide (Hun.out k hlt (by rw [← E1.out]; exact c1))
                have hC := contains_ok AL cL L (T1 k 10) wc (hL5.below Hb3.out) (by omega)
                rw [Hun2] at hC
                have HC := hide hC
                clear c1 hC Hun2
                go_wp2_with fail
                refine HC.out.mono ?_
                rintro e wd ⟨rfl, rfl⟩
                go_wp2_with fail
                go_roundw
                case rel => exact ⟨k + 1, by omega, by go_num, Hb3.out⟩
                case measure => simp [intOf]; omega
              · have d1 : (F k 1 == 0) = false := by simpa using c1
                clear c1
                go_wp2_with fail
                go_roundw
                case rel => exact ⟨k + 1, by omega, by go_num, Hb3.out⟩
                case measure => simp [intOf]; omega

          · have E1 := hide e1
            have s5 : wb.cell? ⟨gs, 5, none⟩ = some (.int .i64 0) := by rw [show wb.cell? ⟨gs, 5, none⟩ = some (.int .i64 (G1 k 5)) from bs2.cell 5, h5]
            have s6 : wb.cell? ⟨gs, 6, none⟩ = some (.int .i64 0) := by rw [show wb.cell? ⟨gs, 6, none⟩ = some (.int .i64 (G1 k 6)) from bs2.cell 6, h6]
            have s1 : wb.cell? ⟨gs, 1, none⟩ = some (.int .i64 0) := by rw [show wb.cell? ⟨gs, 1, none⟩ = some (.int .i64 (G1 k 1)) from bs2.cell 1, h1]
            have t5 : wb.cell? ⟨gt, 5, none⟩ = some (.int .i64 (F k 5)) := bt.cell 5
            have t6 : wb.cell? ⟨gt, 6, none⟩ = some (.int .i64 (F k 6)) := bt.cell 6
            have t3 : wb.cell? ⟨gt, 3, none⟩ = some (.int .i64 (F k 3)) := bt.cell 3
            have t4 : wb.cell? ⟨gt, 4, none⟩ = some (.int .i64 (F k 4)) := bt.cell 4
            have t7 : wb.cell? ⟨gt, 7, none⟩ = some (.int .i64 (F k 7)) := bt.cell 7
            have s3 : wb.cell? ⟨gs, 3, none⟩ = some (.int .i64 (G1 k 3)) := bs2.cell 3
            have s4 : wb.cell? ⟨gs, 4, none⟩ = some (.int .i64 (G1 k 4)) := bs2.cell 4
            have s7 : wb.cell? ⟨gs, 7, none⟩ = some (.int .i64 (G1 k 7)) := bs2.cell 7
            have z3 : wb.frozen? ⟨gs, 3, none⟩ = false := bs2.frozen 3
            have z4 : wb.frozen? ⟨gs, 4, none⟩ = false := bs2.frozen 4
            have z5 : wb.frozen? ⟨gs, 5, none⟩ = false := bs2.frozen 5
            have z6 : wb.frozen? ⟨gs, 6, none⟩ = false := bs2.frozen 6
            have z7 : wb.frozen? ⟨gs, 7, none⟩ = false := bs2.frozen 7
            have hsF : shC F T1 k = (((((shC G1 T1 k).set! 3 (.int .i64 (F k 3))).set! 4 (.int .i64 (F k 4))).set! 5 (.int .i64 (F k 5))).set! 6 (.int .i64 (F k 6))).set! 7 (.int .i64 (F k 7)) := by simp [shC, e0, e1, e2, e8, e9]
            have HsF := hide hsF
            have Bs := hide bs2
            have Bt := hide bt
            have Hb := hide hbl2
            clear hsF bs2 bt hbl2 e0 e1 e2 e8 e9 h5 h6 h1
            by_cases c5 : F k 5 = 0
            · have d5 : (F k 5 != 0) = false := by simpa using c5
              have d6 : (F k 6 != 0) = true := by simp; exact fun h => hz ⟨c5, h⟩
              clear c5 hz
              go_upto_region 22 with fail
              go_cut [] (fun wc => Blk wc gs 28 (shC F T1 k) ∧ Blk wc gt 28 (shC F T1 k) ∧ Below w5.heap.size w5 wc)
              case first =>
                go_region_held3 (fun w' => w'.cell? ⟨gt, 3, none⟩ = some (.int .i64 (F k 3)) ∧ w'.cell? ⟨gt, 4, none⟩ = some (.int .i64 (F k 4)) ∧ w'.cell? ⟨gt, 5, none⟩ = some (.int .i64 (F k 5)) ∧ w'.cell? ⟨gt, 6, none⟩ = some (.int .i64 (F k 6)) ∧ w'.cell? ⟨gt, 7, none⟩ = some (.int .i64 (F k 7)))
                  (first | go_keep | exact ⟨t3, t4, t5, t6, t7⟩) (fail)
                all_goals
                  go_wp2_with fail
                  go_meet
                  have hn3 : gt ≠ gs := fun h => hne h.symm
                  exact ⟨blk_cells HsF.out.symm ((((((Bs.out.drewN 1).set_ 3 _).set_ 4 _).set_ 5 _).set_ 6 _).set_ 7 _), (((((Bt.out.drewN 1).far (p := ⟨gs, 3, none⟩) hn3 _).far (p := ⟨gs, 4, none⟩) hn3 _).far (p := ⟨gs, 5, none⟩) hn3 _).far (p := ⟨gs, 6, none⟩) hn3 _).far (p := ⟨gs, 7, none⟩) hn3 _, (((((below_drewN Hb.out 1).setCell (p := ⟨gs, 3, none⟩) Hgs.out _).setCell (p := ⟨gs, 4, none⟩) Hgs.out _).setCell (p := ⟨gs, 5, none⟩) Hgs.out _).setCell (p := ⟨gs, 6, none⟩) Hgs.out _).setCell (p := ⟨gs, 7, none⟩) Hgs.out _⟩
              case rest =>
                obtain ⟨bsF, btF, hbl3⟩ := hcut
                clear Bs Bt Hb HsF s1 s3 s4 s5 s6 s7 t3 t4 t5 t6 t7 z3 z4 z5 z6 z7
                go_upto_region 25 with fail
                have p0 : wc.cell? ⟨gs, 0, none⟩ = some (.int .i64 (F k 0)) := bsF.cell 0
                have p1 : wc.cell? ⟨gs, 1, none⟩ = some (.int .i64 (F k 1)) := bsF.cell 1
                have p2 : wc.cell? ⟨gs, 2, none⟩ = some (.int .i64 (F k 2)) := bsF.cell 2
                have p3 : wc.cell? ⟨gs, 3, none⟩ = some (.int .i64 (F k 3)) := bsF.cell 3
                have p4 : wc.cell? ⟨gs, 4, none⟩ = some (.int .i64 (F k 4)) := bsF.cell 4
                have p5 : wc.cell? ⟨gs, 5, none⟩ = some (.int .i64 (F k 5)) := bsF.cell 5
                have p6 : wc.cell? ⟨gs, 6, none⟩ = some (.int .i64 (F k 6)) := bsF.cell 6
                have p7 : wc.cell? ⟨gs, 7, none⟩ = some (.int .i64 (F k 7)) := bsF.cell 7
                have p8 : wc.cell? ⟨gs, 8, none⟩ = some (.int .i64 (F k 8)) := bsF.cell 8
                have p9 : wc.cell? ⟨gs, 9, none⟩ = some (.int .i64 (F k 9)) := bsF.cell 9
                have p10 : wc.cell? ⟨gs, 10, none⟩ = some (.string (T1 k 10)) := bsF.cell 10
                have p11 : wc.cell? ⟨gs, 11, none⟩ = some (.string (T1 k 11)) := bsF.cell 11
                have q0 : wc.cell? ⟨gt, 0, none⟩ = some (.int .i64 (F k 0)) := btF.cell 0
                have q1 : wc.cell? ⟨gt, 1, none⟩ = some (.int .i64 (F k 1)) := btF.cell 1
                have q2 : wc.cell? ⟨gt, 2, none⟩ = some (.int .i64 (F k 2)) := btF.cell 2
                have q3 : wc.cell? ⟨gt, 3, none⟩ = some (.int .i64 (F k 3)) := btF.cell 3
                have q4 : wc.cell? ⟨gt, 4, none⟩ = some (.int .i64 (F k 4)) := btF.cell 4
                have q5 : wc.cell? ⟨gt, 5, none⟩ = some (.int .i64 (F k 5)) := btF.cell 5
                have q6 : wc.cell? ⟨gt, 6, none⟩ = some (.int .i64 (F k 6)) := btF.cell 6
                have q7 : wc.cell? ⟨gt, 7, none⟩ = some (.int .i64 (F k 7)) := btF.cell 7
                have q8 : wc.cell? ⟨gt, 8, none⟩ = some (.int .i64 (F k 8)) := btF.cell 8
                have q9 : wc.cell? ⟨gt, 9, none⟩ = some (.int .i64 (F k 9)) := btF.cell 9
                have q10 : wc.cell? ⟨gt, 10, none⟩ = some (.string (T1 k 10)) := btF.cell 10
                have q11 : wc.cell? ⟨gt, 11, none⟩ = some (.string (T1 k 11)) := btF.cell 11
                have Hbs := hide bsF
                have Hb3 := hide hbl3
                clear bsF btF hbl3
                by_cases c1 : F k 1 = 0
                · have d1 : (F k 1 == 0) = true := by simpa using c1
                  have Hun2 := hide (Hun.out k hlt (by rw [← E1.out]; exact c1))
                  have hC := contains_ok AL cL L (T1 k 10) wc (hL5.below Hb3.out) (by omega)
                  rw [Hun2] at hC
                  have HC := hide hC
                  clear c1 hC Hun2
                  go_wp2_with fail
                  refine HC.out.mono ?_
                  rintro e wd ⟨rfl, rfl⟩
                  go_wp2_with fail
                  go_roundw
                  case rel => exact ⟨k + 1, by omega, by go_num, Hb3.out⟩
                  case measure => simp [intOf]; omega
                · have d1 : (F k 1 == 0) = false := by simpa using c1
                  clear c1
                  go_wp2_with fail
                  go_roundw
                  case rel => exact ⟨k + 1, by omega, by go_num, Hb3.out⟩
                  case measure => simp [intOf]; omega
            · have d5 : (F k 5 != 0) = true := by simpa using c5
              clear c5 hz
              go_upto_region 22 with fail
              go_cut [] (fun wc => Blk wc gs 28 (shC F T1 k) ∧ Blk wc gt 28 (shC F T1 k) ∧ Below w5.heap.size w5 wc)
              case first =>
                go_region_held3 (fun w' => w'.cell? ⟨gt, 3, none⟩ = some (.int .i64 (F k 3)) ∧ w'.cell? ⟨gt, 4, none⟩ = some (.int .i64 (F k 4)) ∧ w'.cell? ⟨gt, 5, none⟩ = some (.int .i64 (F k 5)) ∧ w'.cell? ⟨gt, 6, none⟩ = some (.int .i64 (F k 6)) ∧ w'.cell? ⟨gt, 7, none⟩ = some (.int .i64 (F k 7)))
                  (first | go_keep | exact ⟨t3, t4, t5, t6, t7⟩) (fail)
                all_goals
                  go_wp2_with fail
                  go_meet
                  have hn3 : gt ≠ gs := fun h => hne h.symm
                  exact ⟨blk_cells HsF.out.symm ((((((Bs.out.drewN 1).set_ 3 _).set_ 4 _).set_ 5 _).set_ 6 _).set_ 7 _), (((((Bt.out.drewN 1).far (p := ⟨gs, 3, none⟩) hn3 _).far (p := ⟨gs, 4, none⟩) hn3 _).far (p := ⟨gs, 5, none⟩) hn3 _).far (p := ⟨gs, 6, none⟩) hn3 _).far (p := ⟨gs, 7, none⟩) hn3 _, (((((below_drewN Hb.out 1).setCell (p := ⟨gs, 3, none⟩) Hgs.out _).setCell (p := ⟨gs, 4, none⟩) Hgs.out _).setCell (p := ⟨gs, 5, none⟩) Hgs.out _).setCell (p := ⟨gs, 6, none⟩) Hgs.out _).setCell (p := ⟨gs, 7, none⟩) Hgs.out _⟩
              case rest =>
                obtain ⟨bsF, btF, hbl3⟩ := hcut
                clear Bs Bt Hb HsF s1 s3 s4 s5 s6 s7 t3 t4 t5 t6 t7 z3 z4 z5 z6 z7
                go_upto_region 25 with fail
                have p0 : wc.cell? ⟨gs, 0, none⟩ = some (.int .i64 (F k 0)) := bsF.cell 0
                have p1 : wc.cell? ⟨gs, 1, none⟩ = some (.int .i64 (F k 1)) := bsF.cell 1
                have p2 : wc.cell? ⟨gs, 2, none⟩ = some (.int .i64 (F k 2)) := bsF.cell 2
                have p3 : wc.cell? ⟨gs, 3, none⟩ = some (.int .i64 (F k 3)) := bsF.cell 3
                have p4 : wc.cell? ⟨gs, 4, none⟩ = some (.int .i64 (F k 4)) := bsF.cell 4
                have p5 : wc.cell? ⟨gs, 5, none⟩ = some (.int .i64 (F k 5)) := bsF.cell 5
                have p6 : wc.cell? ⟨gs, 6, none⟩ = some (.int .i64 (F k 6)) := bsF.cell 6
                have p7 : wc.cell? ⟨gs, 7, none⟩ = some (.int .i64 (F k 7)) := bsF.cell 7
                have p8 : wc.cell? ⟨gs, 8, none⟩ = some (.int .i64 (F k 8)) := bsF.cell 8
                have p9 : wc.cell? ⟨gs, 9, none⟩ = some (.int .i64 (F k 9)) := bsF.cell 9
                have p10 : wc.cell? ⟨gs, 10, none⟩ = some (.string (T1 k 10)) := bsF.cell 10
                have p11 : wc.cell? ⟨gs, 11, none⟩ = some (.string (T1 k 11)) := bsF.cell 11
                have q0 : wc.cell? ⟨gt, 0, none⟩ = some (.int .i64 (F k 0)) := btF.cell 0
                have q1 : wc.cell? ⟨gt, 1, none⟩ = some (.int .i64 (F k 1)) := btF.cell 1
                have q2 : wc.cell? ⟨gt, 2, none⟩ = some (.int .i64 (F k 2)) := btF.cell 2
                have q3 : wc.cell? ⟨gt, 3, none⟩ = some (.int .i64 (F k 3)) := btF.cell 3
                have q4 : wc.cell? ⟨gt, 4, none⟩ = some (.int .i64 (F k 4)) := btF.cell 4
                have q5 : wc.cell? ⟨gt, 5, none⟩ = some (.int .i64 (F k 5)) := btF.cell 5
                have q6 : wc.cell? ⟨gt, 6, none⟩ = some (.int .i64 (F k 6)) := btF.cell 6
                have q7 : wc.cell? ⟨gt, 7, none⟩ = some (.int .i64 (F k 7)) := btF.cell 7
                have q8 : wc.cell? ⟨gt, 8, none⟩ = some (.int .i64 (F k 8)) := btF.cell 8
                have q9 : wc.cell? ⟨gt, 9, none⟩ = some (.int .i64 (F k 9)) := btF.cell 9
                have q10 : wc.cell? ⟨gt, 10, none⟩ = some (.string (T1 k 10)) := btF.cell 10
                have q11 : wc.cell? ⟨gt, 11, none⟩ = some (.string (T1 k 11)) := btF.cell 11
                have Hbs := hide bsF
                have Hb3 := hide hbl3
                clear bsF btF hbl3
                by_cases c1 : F k 1 = 0
                · have d1 : (F k 1 == 0) = true := by simpa using c1
                  have Hun2 := hide (Hun.out k hlt (by rw [← E1.out]; exact c1))
                  have hC := contains_ok AL cL L (T1 k 10) wc (hL5.below Hb3.out) (by omega)
                  rw [Hun2] at hC
                  have HC := hide hC
                  clear c1 hC Hun2
                  go_wp2_with fail
                  refine HC.out.mono ?_
                  rintro e wd ⟨rfl, rfl⟩
                  go_wp2_with fail
                  go_roundw
                  case rel => exact ⟨k + 1, by omega, by go_num, Hb3.out⟩
                  case measure => simp [intOf]; omega
                · have d1 : (F k 1 == 0) = false := by simpa using c1
                  clear c1
                  go_wp2_with fail
                  go_roundw
                  case rel => exact ⟨k + 1, by omega, by go_num, Hb3.out⟩
                  case measure => simp [intOf]; omega
        · obtain rfl : k = n1 := by omega
          go_wp2_with fail
          go_ret
          exact ⟨rfl, hblw⟩
theorem walked : Walked Try.checked.prog 3 Try.f3 := by
  intro H enc W args ds ps hval hA
  rw [Try.params3] at hA hval
  obtain ⟨v0, l0, d0, m0, p0, q0, e0, _, h0, k0⟩ := Go.Frm.trodAll_cons hA
  obtain ⟨v1, l1, d1, m1, p1, q1, rfl, _, h1, k1⟩ := Go.Frm.trodAll_cons k0
  obtain ⟨v2, l2, d2, m2, p2, q2, rfl, _, h2, k2⟩ := Go.Frm.trodAll_cons k1
  obtain rfl := Go.Frm.trodAll_nil k2
  obtain rfl : args = #[v0, v1, v2] := by cases args; simp_all
  obtain ⟨s, rfl, rfl, rfl, hs⟩ := Go.ChangeMaps.open_string Try.underlying9 (hval 2 _ _ rfl rfl) h2
  obtain ⟨A, n, c, G, T, rfl, hn, hr, hwf, hl⟩ := shapes_argS (hval 0 _ _ rfl rfl) h0
  obtain ⟨A', n', c', G', T', rfl, hn', hr', hwf', hl'⟩ := shapes_argS (hval 1 _ _ rfl rfl) h1
  exact walk A n c G T A' n' c' G' T' s W hr hn hwf hl hr' hn' hwf' hl' hs

theorem lifted (os : Os) (started : os.Started) (H : Type) (enc : TypeId × Value → H) :
    ReturnsInHanded {} Try.checked os 3 .any (Rows.masterKeepsOwnSpec.pre6 enc Try.prog Try.f3 Rows.masterKeepsOwnRow.domain false) (Rows.masterKeepsOwnSpec.post enc Try.prog Try.f3 false true false false) :=
  law_lift (C := Try.checked) (tb := 4) (by kernel_rfl) started (by kernel_rfl) Try.func3 rfl
    (fun ds h => match ds, h with | [_, _, _], _ => rfl) rfl Try.underlying4 (by kernel_rfl) (by kernel_rfl)
    (ChangeSpec.witness6 (enc := enc) (C := Try.checked) false ⟨#[], #[.slice none 0 0, .slice none 0 0, .string ⟨#[]⟩], []⟩ 8 (by kernel_rfl) (by kernel_rfl) (by kernel_rfl) (by kernel_rfl))
    walked

/-- THE STATEMENT -/
theorem proved : Rows.MasterKeepsOwnSaid :=
  OpenClaim.holds_of_wide 3 Try.f3 rfl rfl rfl rfl rfl rfl rfl ⟨rfl, rfl, rfl, rfl, rfl⟩ rfl rfl rfl rfl rfl (by kernel_rfl) Try.func3 (by kernel_rfl)
    (of_decide_eq_true (by kernel_rfl)) (by unfold Func.isWrapper; first | (rw [if_pos (by decide +kernel)]; kernel_rfl) | (rw [if_neg (by decide +kernel)]; exact ⟨rfl, rfl⟩))
    (fun os started H enc _ => lifted os started H enc)
#print axioms proved
end Go.Proofs.Ytnmikhmbnpiadaa.MasterKeepsOwnDone
