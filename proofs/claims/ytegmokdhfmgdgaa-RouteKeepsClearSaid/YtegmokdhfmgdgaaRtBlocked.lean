/- The contract of blocked. -/
import Derived.Test.YtegmokdhfmgdgaaRtMem
import Derived.Test.YtegmokdhfmgdgaaRtWay
import Derived.Test.YtegmokdhfmgdgaaListed
import Derived.Deep.CutBlock
import Derived.StillTailTactics
namespace Go.Proofs.Ytegmokdhfmgdgaa.Rt
open Go.RowKit Go.Frm Go.Frm.Rt

/-- does a straight line enter a rectangle -/
def hitB (f : Fr) (a b : Pt) : Bool := decide (mnI a.1 b.1 < f.x1) && decide (mxI a.1 b.1 > f.x0) && decide (mnI a.2 b.2 < f.y1) && decide (mxI a.2 b.2 > f.y0)
theorem hitB_iff (f : Fr) (a b : Pt) : hitB f a b = true ↔ Hits f a b := by
  unfold hitB Hits
  simp only [Bool.and_eq_true, decide_eq_true_eq]
  constructor
  · rintro ⟨⟨⟨h1, h2⟩, h3⟩, h4⟩
    exact ⟨h1, h2, h3, h4⟩
  · rintro ⟨h1, h2, h3, h4⟩
    exact ⟨⟨⟨h1, h2⟩, h3⟩, h4⟩
def hitsB (fs : Nat → Fr) (n : Nat) (a b : Pt) : Bool := (List.range n).any fun i => hitB (fs i) a b
theorem hitsB_true {fs : Nat → Fr} {n i : Nat} {a b : Pt} (hi : i < n) (h : hitB (fs i) a b = true) : hitsB fs n a b = true := by
  unfold hitsB
  rw [List.any_eq_true]
  exact ⟨i, List.mem_range.2 hi, h⟩
theorem hitsB_false {fs : Nat → Fr} {n : Nat} {a b : Pt} (h : ∀ i, i < n → hitB (fs i) a b = false) : hitsB fs n a b = false := by
  unfold hitsB
  rw [List.any_eq_false]
  intro i hi
  rw [h i (List.mem_range.1 hi)]
  decide
/-- rectangles in memory -/
def frF (fs : Nat → Fr) (i j : Nat) : Value := match j with
  | 0 => .int .i64 (fs i).x0
  | 1 => .int .i64 (fs i).y0
  | 2 => .int .i64 (fs i).x1
  | _ => .int .i64 (fs i).y1
theorem max2 (a b : Int) (wx : World) : (Builtin.max_ #[3, 3] 3 #[.int .i64 a, .int .i64 b]).run Try.prog wx = .ok (.int .i64 (mxI a b)) wx := rfl
theorem min2 (a b : Int) (wx : World) : (Builtin.min_ #[3, 3] 3 #[.int .i64 a, .int .i64 b]).run Try.prog wx = .ok (.int .i64 (mnI a b)) wx := rfl
def ptV (a : Pt) : Value := .agg #[.int .i64 a.1, .int .i64 a.2]
set_option maxRecDepth 100000 in
set_option maxHeartbeats 4000000 in
theorem blocked_ok {w : World} {A : Option Addr} {n c : Nat} {fs : Nat → Fr} (hr : RdF w A n 4 (frF fs)) (hn : n ≤ 1000) (a b : Pt) :
    Calls Try.prog 33 #[.slice A n c, ptV a, ptV b] w fun e w' => e = .returned (.bool (hitsB fs n a b)) ∧ Below w.heap.size w w' := by
  obtain ⟨ax, ay⟩ := a
  obtain ⟨bx, bY⟩ := b
  have hm1 := min2 ax bx
  have hm2 := max2 ax bx
  have hm3 := min2 ay bY
  have hm4 := max2 ay bY
  have HT : Hid (∀ i, i < n → hitB (fs i) (ax, ay) (bx, bY) = true → hitsB fs n (ax, ay) (bx, bY) = true) := hide fun i hi h => hitsB_true hi h
  have HF : Hid ((∀ i, i < n → hitB (fs i) (ax, ay) (bx, bY) = false) → hitsB fs n (ax, ay) (bx, bY) = false) := hide fun h => hitsB_false h
  have HH : Hid (∀ i, hitB (fs i) (ax, ay) (bx, bY) = (decide (mnI ax bx < (fs i).x1) && decide (mxI ax bx > (fs i).x0) && decide (mnI ay bY < (fs i).y1) && decide (mxI ay bY > (fs i).y0))) := hide fun i => rfl
  generalize hitsB fs n (ax, ay) (bx, bY) = r at *
  generalize mnI ax bx = x0 at *
  generalize mxI ax bx = x1 at *
  generalize mnI ay bY = y0 at *
  generalize mxI ay bY = y1 at *
  unfold ptV
  have hbel := ((Below.refl w.heap.size w).alloc (Nat.le_refl _) (.cells #[.int .i64 ax, .int .i64 ay] 24)).alloc (by simp) (.cells #[.int .i64 bx, .int .i64 bY] 24)
  have HR := hide hr
  clear hr
  go_enter Try.func33, Try.ntmps33
  go_wp2_with fail
  have c0 : ((w.alloc (.cells #[.int .i64 ax, .int .i64 ay] 24)).alloc (.cells #[.int .i64 bx, .int .i64 bY] 24)).cell? ⟨w.heap.size, 0, none⟩ = some (.int .i64 ax) := ((Blk.new w 24 #[.int .i64 ax, .int .i64 ay]).alloc _).cell 0
  have c1 : ((w.alloc (.cells #[.int .i64 ax, .int .i64 ay] 24)).alloc (.cells #[.int .i64 bx, .int .i64 bY] 24)).cell? ⟨w.heap.size, 1, none⟩ = some (.int .i64 ay) := ((Blk.new w 24 #[.int .i64 ax, .int .i64 ay]).alloc _).cell 1
  have d0 : ((w.alloc (.cells #[.int .i64 ax, .int .i64 ay] 24)).alloc (.cells #[.int .i64 bx, .int .i64 bY] 24)).cell? ⟨w.heap.size + 1, 0, none⟩ = some (.int .i64 bx) := by
    have h := Blk.new (w.alloc (.cells #[.int .i64 ax, .int .i64 ay] 24)) 24 #[.int .i64 bx, .int .i64 bY]
    rw [hsz_alloc] at h
    exact h.cell 0
  have d1 : ((w.alloc (.cells #[.int .i64 ax, .int .i64 ay] 24)).alloc (.cells #[.int .i64 bx, .int .i64 bY] 24)).cell? ⟨w.heap.size + 1, 1, none⟩ = some (.int .i64 bY) := by
    have h := Blk.new (w.alloc (.cells #[.int .i64 ax, .int .i64 ay] 24)) 24 #[.int .i64 bx, .int .i64 bY]
    rw [hsz_alloc] at h
    exact h.cell 1
  generalize (w.alloc (.cells #[.int .i64 ax, .int .i64 ay] 24)).alloc (.cells #[.int .i64 bx, .int .i64 bY] 24) = w1 at *
  obtain ⟨g, Hg⟩ : ∃ g, Hid (g = w.heap.size) := ⟨_, rfl⟩
  rw [← Hg.out] at c0 c1 d0 d1
  rw [← Hg.out]
  have Hb := hide hbel
  clear hbel
  go_cut [7, 8, 9, 10] (fun v0 v1 v2 v3 wc => v0 = .int .i64 x0 ∧ v1 = .int .i64 x1 ∧ v2 = .int .i64 y0 ∧ v3 = .int .i64 y1 ∧ wc = w1.drew)
  case first =>
    go_region_held3 (fun w' => w'.cell? ⟨g, 0, none⟩ = some (.int .i64 ax) ∧ w'.cell? ⟨g, 1, none⟩ = some (.int .i64 ay) ∧ w'.cell? ⟨g + 1, 0, none⟩ = some (.int .i64 bx) ∧ w'.cell? ⟨g + 1, 1, none⟩ = some (.int .i64 bY))
      (first | go_keep)
      (fail)
    all_goals (go_wp2_with fail; go_meet; exact ⟨rfl, rfl, rfl, rfl, rfl⟩)
  case rest =>
    obtain ⟨rfl, rfl, rfl, rfl, rfl⟩ := hcut
    have HB := hide (show Below w.heap.size w w1.drew from (below_drewN Hb.out 1))
    have HR1 := hide (show RdF w1.drew A n 4 (frF fs) from HR.out.below HB.out)
    clear HR Hb c0 c1 d0 d1 hm1 hm2 hm3 hm4
    generalize w1.drew = w2 at *
    go_wp2_with fail
    go_loopw [35] (fun v wr => ∃ k : Nat, v = .int .i64 k ∧ k ≤ n ∧ Hid (∀ i, i < k → hitB (fs i) (ax, ay) (bx, bY) = false) ∧ Hid (Below w.heap.size w wr) ∧ Hid (RdF wr A n 4 (frF fs))) (fun v _ => n - (intOf v).toNat)
    case atStart => exact ⟨0, rfl, Nat.zero_le _, hide (fun i hi => by omega), HB, HR1⟩
    case round =>
      clear HB HR1
      obtain ⟨wo, rfl⟩ : ∃ wx : World, wx = wr := ⟨_, rfl⟩
      obtain ⟨k, rfl, hk, HN, HB, HR⟩ := hrel
      by_cases hlt : k < n
      · obtain ⟨gb, off, rfl, hc⟩ := HR.out.at_ hlt
        have e0 := hc 0 (by omega)
        have e1 := hc 1 (by omega)
        have e2 := hc 2 (by omega)
        have e3 := hc 3 (by omega)
        have HHk := hide (HH.out k)
        have k1 : decide ((k : Int) < (n : Int)) = true := decide_eq_true (by omega)
        have k2 : (k : Int) < (n : Int) := by omega
        have k3 : (0 : Int) ≤ (k : Int) := by omega
        have k4 : (k : Int) ≤ 1000 := by omega
        change wo.cell? ⟨gb, off + k * 4 + 0, none⟩ = some (.int .i64 (fs k).x0) at e0
        change wo.cell? ⟨gb, off + k * 4 + 1, none⟩ = some (.int .i64 (fs k).y0) at e1
        change wo.cell? ⟨gb, off + k * 4 + 2, none⟩ = some (.int .i64 (fs k).x1) at e2
        change wo.cell? ⟨gb, off + k * 4 + 3, none⟩ = some (.int .i64 (fs k).y1) at e3
        rw [Nat.add_zero] at e0
        have HB2 := hide (HB.out.alloc HB.out.size (.cells #[.int .i64 (fs k).x0, .int .i64 (fs k).y0, .int .i64 (fs k).x1, .int .i64 (fs k).y1] 34))
        have HR2 := hide (HR.out.alloc (.cells #[.int .i64 (fs k).x0, .int .i64 (fs k).y0, .int .i64 (fs k).x1, .int .i64 (fs k).y1] 34))
        have HTk := hide (HT.out k hlt)
        obtain ⟨p0, Hp0⟩ : ∃ z : Int, Hid (z = (fs k).x0) := ⟨_, rfl⟩
        obtain ⟨p1, Hp1⟩ : ∃ z : Int, Hid (z = (fs k).y0) := ⟨_, rfl⟩
        obtain ⟨p2, Hp2⟩ : ∃ z : Int, Hid (z = (fs k).x1) := ⟨_, rfl⟩
        obtain ⟨p3, Hp3⟩ : ∃ z : Int, Hid (z = (fs k).y1) := ⟨_, rfl⟩
        rw [← Hp0.out] at e0 HHk HB2 HR2
        rw [← Hp1.out] at e1 HHk HB2 HR2
        rw [← Hp2.out] at e2 HHk HB2 HR2
        rw [← Hp3.out] at e3 HHk HB2 HR2
        clear hlt hc
        cases h1 : decide (x0 < p2) with
        | false =>
          have HN2 : Hid (∀ i, i < k + 1 → hitB (fs i) (ax, ay) (bx, bY) = false) := hide (fun i hi => by
            by_cases e : i = k
            · subst e; rw [HHk.out, h1]; rfl
            · exact HN.out i (by omega))
          go_wp2_with fail
          go_roundw
          case rel => exact ⟨k + 1, by go_num, by omega, HN2, HB2, HR2⟩
          case measure => (simp [intOf]; omega)
        | true =>
          cases h2 : decide (x1 > p0) with
          | false =>
            have HN2 : Hid (∀ i, i < k + 1 → hitB (fs i) (ax, ay) (bx, bY) = false) := hide (fun i hi => by
              by_cases e : i = k
              · subst e; rw [HHk.out, h1, h2]; rfl
              · exact HN.out i (by omega))
            go_wp2_with fail
            go_roundw
            case rel => exact ⟨k + 1, by go_num, by omega, HN2, HB2, HR2⟩
            case measure => (simp [intOf]; omega)
          | true =>
            cases h3 : decide (y0 < p3) with
            | false =>
              have HN2 : Hid (∀ i, i < k + 1 → hitB (fs i) (ax, ay) (bx, bY) = false) := hide (fun i hi => by
                by_cases e : i = k
                · subst e; rw [HHk.out, h1, h2, h3]; rfl
                · exact HN.out i (by omega))
              go_wp2_with fail
              go_roundw
              case rel => exact ⟨k + 1, by go_num, by omega, HN2, HB2, HR2⟩
              case measure => (simp [intOf]; omega)
            | true =>
              cases h4 : decide (y1 > p1) with
              | false =>
                have HN2 : Hid (∀ i, i < k + 1 → hitB (fs i) (ax, ay) (bx, bY) = false) := hide (fun i hi => by
                  by_cases e : i = k
                  · subst e; rw [HHk.out, h1, h2, h3, h4]; rfl
                  · exact HN.out i (by omega))
                go_wp2_with fail
                go_roundw
                case rel => exact ⟨k + 1, by go_num, by omega, HN2, HB2, HR2⟩
                case measure => (simp [intOf]; omega)
              | true =>
                have HZ : Hid (r = true) := hide (HTk.out (by rw [HHk.out, h1, h2, h3, h4]; rfl))
                go_wp2_with fail
                go_ret
                exact ⟨ret_bool HZ.out.symm, HB2.out⟩
      · obtain rfl : k = n := by omega
        have HZ : Hid (r = false) := hide (HF.out HN.out)
        have k1 : decide ((k : Int) < (k : Int)) = false := decide_eq_false (by omega)
        go_wp2_with fail
        go_ret
        exact ⟨ret_bool HZ.out.symm, HB.out⟩
end Go.Proofs.Ytegmokdhfmgdgaa.Rt
