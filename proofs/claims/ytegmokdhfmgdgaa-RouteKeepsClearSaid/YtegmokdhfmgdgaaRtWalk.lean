/- The contract of (*grid).way. -/
import Derived.Test.YtegmokdhfmgdgaaRtStepPlain
import Derived.Test.YtegmokdhfmgdgaaRtReverse
namespace Go.Proofs.Ytegmokdhfmgdgaa.Rt
open Go.RowKit Go.Frm Go.Frm.Rt

theorem backs_step {cl : Nat → St} {f k : Nat} (hb : -1 ≤ (cl k).back ∧ (cl k).back < k) (hk : k ≤ f) : ∃ rest f2, backs cl f k = ((cl k).x, (cl k).y) :: rest ∧ (((cl k).back = -1 ∧ rest = []) ∨ ∃ k2 : Nat, (cl k).back = k2 ∧ k2 < k ∧ k2 ≤ f2 ∧ rest = backs cl f2 k2) := by
  cases f with
  | zero => exact ⟨[], 0, rfl, .inl ⟨by omega, rfl⟩⟩
  | succ f =>
    by_cases h : (cl k).back < 0
    · exact ⟨[], 0, by show (if (cl k).back < 0 then _ else _) = _; rw [if_pos h], .inl ⟨by omega, rfl⟩⟩
    · refine ⟨backs cl f (cl k).back.toNat, f, by show (if (cl k).back < 0 then _ else _) = _; rw [if_neg h], .inr ⟨(cl k).back.toNat, by omega, by omega, by omega, rfl⟩⟩
theorem ptOf_mid (X Y : Nat → Int) (pre rest : List (Nat × Nat)) (p : Nat × Nat) : ptOf X Y (pre ++ p :: rest) pre.length = (X p.1, Y p.2) := by
  unfold ptOf
  simp
theorem backs_len {cl : Nat → St} : ∀ f k : Nat, (backs cl f k).length ≤ f + 1 ∧ 0 < (backs cl f k).length
  | 0, k => ⟨Nat.le_refl _, Nat.zero_lt_one⟩
  | f + 1, k => by
    show (if (cl k).back < 0 then _ else _ : List (Nat × Nat)).length ≤ _ ∧ 0 < (if (cl k).back < 0 then _ else _ : List (Nat × Nat)).length
    split
    · simp
    · have := backs_len (cl := cl) f (cl k).back.toNat
      simp only [List.length_cons]
      omega
theorem ptOf_rev (X Y : Nat → Int) (L : List (Nat × Nat)) {i : Nat} (h : i < L.length) : ptOf X Y L (L.length - 1 - i) = ptOf X Y L.reverse i := by
  unfold ptOf
  rw [List.getD_eq_getElem?_getD, List.getD_eq_getElem?_getD, List.getElem?_reverse h]
/-- what has been kept of i points -/
def shK (P : Nat → Pt) (n i : Nat) : List Pt := if i = n then short P n else (kept P i).map P
def skB (P : Nat → Pt) (n i : Nat) : Bool := decide (0 < i) && decide (i + 1 < n) && colB (P (i - 1)) (P i) (P (i + 1))
theorem shK_zero (P : Nat → Pt) {n : Nat} (h : 0 < n) : shK P n 0 = [] := by unfold shK; rw [if_neg (by omega)]; rfl
theorem shK_end (P : Nat → Pt) (n : Nat) : shK P n n = short P n := by unfold shK; rw [if_pos rfl]
theorem shK_step (P : Nat → Pt) {n i : Nat} (h : i < n) : shK P n (i + 1) = shK P n i ++ if skB P n i = true then [] else [P i] := by
  unfold shK
  rw [if_neg (show ¬ i = n by omega)]
  by_cases h1 : i + 1 = n
  · rw [if_pos h1]
    have h2 : skB P n i = false := by unfold skB; rw [show decide (i + 1 < n) = false from decide_eq_false (by omega)]; simp
    rw [h2, if_neg (by decide)]
    unfold short
    rw [show n - 1 = i by omega]
  · rw [if_neg h1]
    show (kept P i ++ if (decide (0 < i) && colB (P (i - 1)) (P i) (P (i + 1))) = true then [] else [i]).map P = _
    have h2 : skB P n i = (decide (0 < i) && colB (P (i - 1)) (P i) (P (i + 1))) := by unfold skB; rw [show decide (i + 1 < n) = true from decide_eq_true (by omega)]; simp
    rw [h2, List.map_append]
    congr 1
    split <;> rfl
theorem shK_len (P : Nat → Pt) {n : Nat} : ∀ i, i ≤ n → 0 < n → (shK P n i).length ≤ i
  | 0, _, hn => by rw [shK_zero P hn]; exact Nat.le_refl _
  | i + 1, h, hn => by
    rw [shK_step P (by omega), List.length_append]
    have := shK_len P (n := n) i (by omega) hn
    split <;> simp <;> omega
theorem pt_info : (Try.prog.info? 24).map (fun i => (i.zero, i.size, i.bytes)) = some (some (.agg #[.int .i64 0, .int .i64 0]), 2, 16) := by kernel_rfl
theorem ptF_push (P : Nat → Pt) (n : Nat) (p : Pt) : rowF (n + 1) 2 (ptF (upd P n p)) = rowF n 2 (ptF P) ++ [.int .i64 p.1, .int .i64 p.2] := by
  rw [rowF_succ, rowF_congr (f := ptF (upd P n p)) (g := ptF P) (fun i j hi _ => by unfold ptF; rw [upd_other _ _ (by omega)])]
  congr 1
  simp [ptF, upd_same, List.range_succ]
theorem map_push (Q : Nat → Pt) (m : Nat) (p : Pt) : (List.range (m + 1)).map (upd Q m p) = (List.range m).map Q ++ [p] := by
  rw [List.range_succ, List.map_append]
  congr 1
  · exact List.map_congr_left fun i hi => upd_other _ _ (by have := List.mem_range.1 hi; omega)
  · simp [upd_same]
section
variable {w : World} {b base gd N : Nat} {xA : Option Addr} {nx xc : Nat} {yA : Option Addr} {ny yc : Nat} {lA : Option Addr} {nl : Nat} {lV : Value} {X Y : Nat → Int} {fs : Nat → Fr} {dn : Nat → Bool} {cA : Option Addr} {cn cc : Nat} {cl : Nat → St} {qA : Option Addr} {qn qc : Nat} {f : Nat → St}
set_option maxRecDepth 100000 in
set_option maxHeartbeats 8000000 in
theorem way_ok (h : GQ w b base gd N (.slice xA nx xc) (.slice yA ny yc) lV dn cA cn cc cl qA qn qc f) (hr : GR w b base xA yA lA nx ny nl X Y fs) (hxy : ∀ i, i < cn → (cl i).x < nx ∧ (cl i).y < ny) (hbk : ∀ i, i < cn → -1 ≤ (cl i).back ∧ (cl i).back < i) (hcn : cn ≤ 9000000) {k : Nat} (hk : k < cn) :
    Calls Try.prog 24 #[.pointer (some ⟨b, 0, none⟩), .int .i64 k] w fun e w' => ∃ (A : Option Addr) (n c : Nat) (Q : Nat → Pt), e = .returned (.slice A n c) ∧ w'.ownsRow w.heap.size 24 2 (.slice A n c) n (rowF n 2 (ptF Q)) ∧
      (List.range n).map Q = short (ptOf X Y (backs cl k k).reverse) (backs cl k k).length ∧ Below w.heap.size w w' := by
  obtain ⟨gc, hcA, hgc⟩ := own_at h.clo (by omega)
  subst hcA
  have hcap := own_cap h.clo
  obtain ⟨ip, jp0, jp1, jp2, jp3⟩ := info_parts pt_info
  obtain ⟨L, HL⟩ : ∃ L, Hid (L = backs cl k k) := ⟨_, rfl⟩
  have hLl := backs_len (cl := cl) k k
  rw [← HL.out] at hLl ⊢
  obtain ⟨n, Hn⟩ : ∃ n, Hid (n = L.length) := ⟨_, rfl⟩
  rw [← Hn.out] at hLl ⊢
  obtain ⟨P, HP⟩ : ∃ P : Nat → Pt, Hid (P = ptOf X Y L.reverse) := ⟨_, rfl⟩
  rw [← HP.out]
  have H0 := hide h
  have HR := hide hr
  have HXY := hide hxy
  have HBK := hide hbk
  have HB0 := hide (Below.refl w.heap.size w)
  have HO0 := hide (World.ownsRow_nil w w.heap.size 24 2)
  clear h hr hxy hbk
  go_enter Try.func24, Try.ntmps24
  go_upto_block 0 with fail
  go_cut [5] (fun v wc => ∃ (g c : Nat), v = .slice (some ⟨g, 0, none⟩) n c ∧ wc.ownsRow w.heap.size 24 2 (.slice (some ⟨g, 0, none⟩) n c) n (rowF n 2 (ptF (ptOf X Y L))) ∧ Below w.heap.size w wc)
  case first => as_aux_lemma =>
    go_wp2_with fail
    go_loopw [1, 5, 6] (fun a v _ wr => ∃ (j : Nat) (A : Option Addr) (c : Nat) (z : Int) (pre rest : List (Nat × Nat)), a = .int .i64 z ∧ v = .slice A j c ∧ Hid (L = pre ++ rest ∧ pre.length = j) ∧ Hid ((z = -1 ∧ rest = []) ∨ ∃ k2 f2 : Nat, z = k2 ∧ k2 < cn ∧ k2 ≤ f2 ∧ rest = backs cl f2 k2) ∧ -1 ≤ z ∧ z < cn ∧
      Hid (wr.ownsRow w.heap.size 24 2 (.slice A j c) j (rowF j 2 (ptF (ptOf X Y L)))) ∧ Hid (Below w.heap.size w wr)) (fun a _ _ _ => (intOf a + 1).toNat)
    case atStart => exact ⟨0, none, 0, k, [], L, rfl, rfl, hide ⟨rfl, rfl⟩, hide (.inr ⟨k, k, rfl, hk, Nat.le_refl _, HL.out⟩), by omega, by omega, HO0, HB0⟩
    case round =>
      clear HO0 HB0
      obtain ⟨wo, rfl⟩ : ∃ wx : World, wx = wr := ⟨_, rfl⟩
      obtain ⟨j, A, c, z, pre, rest, rfl, rfl, HPR, HZ, hz1, hz2, HO, HB⟩ := hrel
      by_cases hz : 0 ≤ z
      · have HK : ∃ k2 f2 : Nat, z = k2 ∧ k2 < cn ∧ k2 ≤ f2 ∧ rest = backs cl f2 k2 := HZ.out.resolve_left (fun e => by omega)
        obtain ⟨k2, f2, rfl, hk2, hf2, hrest⟩ := HK
        obtain ⟨rest2, f3, hb1, hb2⟩ := backs_step (HBK.out k2 hk2) hf2
        have HG := hide (H0.out.below HB.out)
        have HGR := hide (HR.out.below HB.out)
        obtain ⟨hxl, hyl⟩ := HXY.out k2 hk2
        obtain ⟨c0, c1, c2, c3, c4, c5⟩ := own_cells HG.out.clo hk2
        obtain ⟨bx, ox, rfl, xs⟩ := HGR.out.xs.at_ (k := (cl k2).x) (by rw [tab_length]; exact hxl)
        obtain ⟨bY, oy, rfl, ys⟩ := HGR.out.ys.at_ (k := (cl k2).y) (by rw [tab_length]; exact hyl)
        rw [tab_ix _ hxl] at xs
        rw [tab_ix _ hyl] at ys
        have HPR2 : Hid (L = (pre ++ [((cl k2).x, (cl k2).y)]) ++ rest2 ∧ (pre ++ [((cl k2).x, (cl k2).y)]).length = j + 1) := hide ⟨by rw [HPR.out.1, hrest, hb1]; simp, by rw [List.length_append, HPR.out.2]; rfl⟩
        have HZ2 : Hid (((cl k2).back = -1 ∧ rest2 = []) ∨ ∃ k3 f2 : Nat, (cl k2).back = k3 ∧ k3 < cn ∧ k3 ≤ f2 ∧ rest2 = backs cl f2 k3) := hide (hb2.imp_right fun ⟨k3, e1, e2, e3, e4⟩ => ⟨k3, f3, e1, by omega, e3, e4⟩)
        have HPJ : Hid (ptOf X Y L j = (X (cl k2).x, Y (cl k2).y)) := hide (by rw [HPR.out.1, hrest, hb1, ← HPR.out.2, ptOf_mid])
        have hjn : j < n := by
          have h1 := HPR.out.1
          have h2 := HPR.out.2
          have h3 := Hn.out
          rw [hrest, hb1] at h1
          rw [h1, List.length_append, List.length_cons, h2] at h3
          omega
        have Hbb := hide (HBK.out k2 hk2)
        have hbk1 : -1 ≤ (cl k2).back := Hbb.out.1
        have hbk2 : (cl k2).back < k2 := Hbb.out.2
        have g0 : wo.cell? ⟨b, 0, none⟩ = some (.slice (some ⟨bx, ox, none⟩) nx xc) := HG.out.grid.cell 0
        have g1 : wo.cell? ⟨b, 1, none⟩ = some (.slice (some ⟨bY, oy, none⟩) ny yc) := HG.out.grid.cell 1
        have g5 : wo.cell? ⟨b, 5, none⟩ = some (.slice (some ⟨gc, 0, none⟩) cn cc) := HG.out.grid.cell 5
        clear hrest hb1 hb2 HPR HZ hz1 hz2
        obtain ⟨sx, Hsx⟩ : ∃ m : Nat, Hid (m = (cl k2).x) := ⟨_, rfl⟩
        obtain ⟨sy, Hsy⟩ : ∃ m : Nat, Hid (m = (cl k2).y) := ⟨_, rfl⟩
        obtain ⟨sd, Hsd⟩ : ∃ m : Nat, Hid (m = (cl k2).d) := ⟨_, rfl⟩
        obtain ⟨sb, Hsb⟩ : ∃ m : Int, Hid (m = (cl k2).co.b) := ⟨_, rfl⟩
        obtain ⟨sl, Hsl⟩ : ∃ m : Int, Hid (m = (cl k2).co.l) := ⟨_, rfl⟩
        obtain ⟨sk, Hsk⟩ : ∃ m : Int, Hid (m = (cl k2).back) := ⟨_, rfl⟩
        rw [← Hsx.out] at c0 xs HPJ HPR2 hxl
        rw [← Hsy.out] at c1 ys HPJ HPR2 hyl
        rw [← Hsd.out] at c2
        rw [← Hsb.out] at c3
        rw [← Hsl.out] at c4
        rw [← Hsk.out] at c5 HZ2 hbk1 hbk2
        obtain ⟨xa, Hxa⟩ : ∃ z : Int, Hid (z = X sx) := ⟨_, rfl⟩
        obtain ⟨ya, Hya⟩ : ∃ z : Int, Hid (z = Y sy) := ⟨_, rfl⟩
        rw [← Hxa.out] at xs HPJ
        rw [← Hya.out] at ys HPJ
        have i1 : (k2 : Int) < (cn : Int) := by omega
        have i2 : (0 : Int) ≤ (k2 : Int) := by omega
        have i3 : (sx : Int) < (nx : Int) := by omega
        have i4 : (0 : Int) ≤ (sx : Int) := by omega
        have i5 : (sy : Int) < (ny : Int) := by omega
        have i6 : (0 : Int) ≤ (sy : Int) := by omega
        have i7 : decide ((k2 : Int) ≥ 0) = true := decide_eq_true i2
        have b0 := World.block_lt_of_cell? _ _ g0
        have bc0 := World.block_lt_of_cell? _ _ c0
        have bxs := World.block_lt_of_cell? _ _ xs
        have bys := World.block_lt_of_cell? _ _ ys
        have HOA := hide (HO.out.alloc (.cells #[.int .i64 sx, .int .i64 sy, .int .i64 sd, .int .i64 sb, .int .i64 sl, .int .i64 sk] 61))
        have HBA := hide (HB.out.alloc HB.out.size (.cells #[.int .i64 sx, .int .i64 sy, .int .i64 sd, .int .i64 sb, .int .i64 sl, .int .i64 sk] 61))
        have HBo := hide ((Below.refl wo.heap.size wo).alloc (Nat.le_refl _) (.cells #[.int .i64 sx, .int .i64 sy, .int .i64 sd, .int .i64 sb, .int .i64 sl, .int .i64 sk] 61))
        have hX := Blk.new wo 61 #[.int .i64 sx, .int .i64 sy, .int .i64 sd, .int .i64 sb, .int .i64 sl, .int .i64 sk]
        have HXB := hide hX
        have Hbk9 := Hsk
        clear Hsx Hsy Hsd Hsb Hsl Hsk hX
        have hbl : b < w.heap.size := H0.out.grid.lt
        have hbxl : bx < w.heap.size := World.block_lt_of_cell? _ _ (HR.out.xs.get (k := sx) (by rw [tab_length]; exact hxl))
        have hbyl : bY < w.heap.size := World.block_lt_of_cell? _ _ (HR.out.ys.get (k := sy) (by rw [tab_length]; exact hyl))
        have n0 := own_not_low HO.out hbl
        have n1 := own_not_low HO.out hbxl
        have n2 := own_not_low HO.out hbyl
        have n3 : some wo.heap.size ≠ (Value.slice A j c).ownBlock := fun e => by have := (own_blk_ge HO.out e.symm).2; omega
        have hsz1 : (wo.alloc (.cells #[.int .i64 sx, .int .i64 sy, .int .i64 sd, .int .i64 sb, .int .i64 sl, .int .i64 sk] 61)).heap.size = wo.heap.size + 1 := by simp
        go_upto_region 5 with fail
        have t0 := (HBo.out.cell b0).trans g0
        have t1 := (HBo.out.cell (p := ⟨b, 1, none⟩) b0).trans g1
        have t2 := (HBo.out.cell bxs).trans xs
        have t3 := (HBo.out.cell bys).trans ys
        have t4 := HXB.out.cell 0
        have t5 := HXB.out.cell 1
        obtain ⟨g6, Hg6⟩ : ∃ g, Hid (g = wo.heap.size) := ⟨_, rfl⟩
        rw [← Hg6.out] at t4 t5 n3 hsz1
        rw [← Hg6.out]
        have hg6 : w.heap.size ≤ g6 := by rw [Hg6.out]; exact HB.out.size
        clear c0 c1 c2 c3 c4 c5 g0 g1 g5 xs ys HXB HBo HO HG HGR
        generalize wo.alloc (.cells #[.int .i64 sx, .int .i64 sy, .int .i64 sd, .int .i64 sb, .int .i64 sl, .int .i64 sk] 61) = w1 at *
        have hcap2 : j + 1 ≤ maxLen := by simp only [maxLen]; omega
        have hbyt : (j + 1) * 16 ≤ 140737488355328 := by omega
        change w1.cell? ⟨b, 0, none⟩ = _ at t0
        change w1.cell? ⟨b, 1, none⟩ = _ at t1
        change w1.cell? ⟨g6, 0, none⟩ = some (.int .i64 sx) at t4
        change w1.cell? ⟨g6, 1, none⟩ = some (.int .i64 sy) at t5
        go_region_held3 (fun w' => w'.cell? ⟨b, 0, none⟩ = some (.slice (some ⟨bx, ox, none⟩) nx xc) ∧ w'.cell? ⟨b, 1, none⟩ = some (.slice (some ⟨bY, oy, none⟩) ny yc) ∧ w'.cell? ⟨bx, ox + sx, none⟩ = some (.int .i64 xa) ∧ w'.cell? ⟨bY, oy + sy, none⟩ = some (.int .i64 ya) ∧ w'.cell? ⟨g6, 0, none⟩ = some (.int .i64 sx) ∧ w'.cell? ⟨g6, 1, none⟩ = some (.int .i64 sy))
          (first | go_keep | (go_split_ands; refine ⟨?_, ?_, ?_, ?_, ?_, ?_⟩ <;> first | (rw [hgrow.cell_far _ (by simp; omega) n0]; assumption) | (rw [hgrow.cell_far _ (by simp; omega) n1]; assumption) | (rw [hgrow.cell_far _ (by simp; omega) n2]; assumption) | (rw [hgrow.cell_far _ (by simp; omega) n3]; assumption)))
          ((refine step_append_lies _ (by rfl) _ _ _ (by rfl) w.heap.size 24 ip _ 2 16 Try.underlying29 jp0 jp1 jp2 jp3 rfl (by omega) (.slice A j c) j (rowF j 2 (ptF (ptOf X Y L))) (by rfl) (World.ownsRow.alloc (own_drewN HOA.out 1) _)
              ⟨g6 + 1, 0, none⟩ 1 1 [.int .i64 xa, .int .i64 ya] (by rfl) (by rfl) (World.news_of_block (cs := #[.int .i64 xa, .int .i64 ya]) (t := 24) (fr := (0, 0)) (by rw [← hsz1]; exact heap_alloc_new w1.drew _)) (by simp [Value.oneCell'])
              (by omega) hcap2 hbyt (by simp; omega) (g6 + 2) (by simp; omega) ?_; intro g7 cap w6 hown6 hgrow hat hlt))
        have hB6 : Below w.heap.size w w6 := below_app ((below_drewN HBA.out 1).alloc (by simp; omega) _) (by simp; omega) (World.ownsRow.alloc (own_drewN HOA.out 1) _) hgrow
        have HB6 := hide hB6
        have HO6 : Hid (w6.ownsRow w.heap.size 24 2 (.slice (some ⟨g7, 0, none⟩) (j + 1) cap) (j + 1) (rowF (j + 1) 2 (ptF (ptOf X Y L)))) := hide (by
          have h1 := ptF_push (ptOf X Y L) j (xa, ya)
          rw [rowF_congr (g := ptF (ptOf X Y L)) (fun i jj hi _ => by
            unfold ptF
            by_cases e : i = j
            · subst e; rw [upd_same, HPJ.out]
            · rw [upd_other _ _ e])] at h1
          rw [h1]
          exact hown6)
        have HG6 := hide (H0.out.below hB6)
        obtain ⟨c0, c1, c2, c3, c4, c5⟩ := own_cells HG6.out.clo hk2
        rw [← Hbk9.out] at c5
        have g5 : w6.cell? ⟨b, 5, none⟩ = some (.slice (some ⟨gc, 0, none⟩) cn cc) := HG6.out.grid.cell 5
        clear c0 c1 c2 c3 c4 t0 t1 t2 t3 t4 t5 hown6 hgrow hat hlt hB6 HOA HBA HG6 n0 n1 n2 n3 hsz1 b0 bc0 bxs bys hcap2 hbyt hg6
        go_wp2_with fail
        go_roundw
        case rel => exact ⟨j + 1, some ⟨g7, 0, none⟩, cap, sk, pre ++ [(sx, sy)], rest2, rfl, rfl, HPR2, HZ2, by omega, by omega, HO6, HB6⟩
        case measure => (simp [intOf]; omega)
      · obtain rfl : z = -1 := by omega
        have HE : Hid (rest = []) := hide (HZ.out.resolve_right (fun ⟨k2, f2, e, _⟩ => by omega)).2
        have hjn : j = n := by
          have h1 := HPR.out.1
          have h2 := HPR.out.2
          have h3 := Hn.out
          rw [HE.out, List.append_nil] at h1
          rw [h3, h1, h2]
        subst hjn
        have hj0 : 0 < j := hLl.2
        obtain ⟨g, rfl, hg⟩ := own_at HO.out hj0
        clear HPR HZ HE
        go_wp2_with fail
        go_meet
        exact ⟨g, c, rfl, HO.out, HB.out⟩
  case rest =>
    obtain ⟨g, c, rfl, hown, hB⟩ := hcut
    have hgw : w.heap.size ≤ g := (own_blk_ge hown (k := g) (by simp [Value.ownBlock])).1
    have hn0 : 0 < n := hLl.2
    have hn1 : n ≤ 9000001 := by omega
    obtain ⟨w1, rfl⟩ : ∃ wx : World, wx = wc := ⟨_, rfl⟩
    have HRv := hide (reverse_ok hown (by omega))
    have HB1 := hide hB
    have Hl := hide hLl
    clear hown hB hLl H0 HR HXY HBK HO0 HB0
    go_wp2_with fail
    refine HRv.out.mono ?_
    rintro e2 w2 ⟨rfl, hown2, hc2⟩
    have hown3 := own_pts_congr hown2 (Q := P) (fun i hi => by
      have h1 := Hn.out
      rw [h1, HP.out]
      exact ptOf_rev X Y L (by omega))
    have hbel2 : Below w.heap.size w w2 := HB1.out.trans (hc2.to_below HB1.out.size (fun k hk => by
      unfold Is at hk
      omega))
    have HF2 := hide (RdF.of_own hown3)
    have HB2 := hide hbel2
    have HO0 := hide (World.ownsRow_nil w2 w2.heap.size 24 2)
    have HX0 := hide (Below.refl w2.heap.size w2)
    have hgl : g < w2.heap.size := (own_blk_ge hown3 (k := g) (by simp [Value.ownBlock])).2
    have hcap := own_cap hown3
    have hm0 := hide (shK_zero P hn0)
    clear hown2 hown3 hc2 HRv hbel2 HB1
    go_wp2_with fail
    go_loopw [51, 7, 8, 9] (fun a v _ _ wr => ∃ (i m : Nat) (A : Option Addr) (c2 : Nat) (Q : Nat → Pt), a = .int .i64 i ∧ v = .slice A m c2 ∧ i ≤ n ∧ m ≤ i ∧ Hid ((List.range m).map Q = shK P n i) ∧
      Hid (wr.ownsRow w2.heap.size 24 2 (.slice A m c2) m (rowF m 2 (ptF Q))) ∧ Hid (Below w2.heap.size w2 wr)) (fun a _ _ _ _ => n - (intOf a).toNat)
    case atStart => exact ⟨0, 0, none, 0, P, rfl, rfl, Nat.zero_le _, Nat.le_refl _, hide hm0.out.symm, HO0, HX0⟩
    case round =>
      clear HO0 HX0 hm0
      obtain ⟨wo, rfl⟩ : ∃ wx : World, wx = wr := ⟨_, rfl⟩
      obtain ⟨i, m, A, c2, Q, rfl, rfl, hi, hmi, HM, HO, HX⟩ := hrel
      by_cases hlt : i < n
      · have HFo : Hid (RdF wo (some ⟨g, 0, none⟩) n 2 (ptF P)) := hide (HF2.out.below HX.out)
        have pc : ∀ j, j < n → wo.cell? ⟨g, j * 2, none⟩ = some (.int .i64 (P j).1) ∧ wo.cell? ⟨g, j * 2 + 1, none⟩ = some (.int .i64 (P j).2) := fun j hj => by
          obtain ⟨b9, o9, e9, h9⟩ := HFo.out.at_ hj
          injection e9 with e9
          injection e9 with e9 e10
          subst e9 e10
          have h10 := h9 0 (by omega)
          have h11 := h9 1 (by omega)
          rw [Nat.zero_add] at h10 h11
          exact ⟨h10, h11⟩
        obtain ⟨p0, p1⟩ := pc i hlt
        have k1 : decide ((i : Int) < (n : Int)) = true := decide_eq_true (by omega)
        have k2 : (i : Int) < (n : Int) := by omega
        have k3 : (0 : Int) ≤ (i : Int) := by omega
        have k4 : (i : Int) ≤ 9000001 := by omega
        have HST := hide (shK_step P hlt)
        obtain ⟨sk, Hsk⟩ : ∃ s : Bool, Hid (s = skB P n i) := ⟨_, rfl⟩
        rw [← Hsk.out] at HST
        obtain ⟨px, Hpx⟩ : ∃ z : Int, Hid (z = (P i).1) := ⟨_, rfl⟩
        obtain ⟨py, Hpy⟩ : ∃ z : Int, Hid (z = (P i).2) := ⟨_, rfl⟩
        rw [← Hpx.out] at p0
        rw [← Hpy.out] at p1
        have HBo := hide ((Below.refl wo.heap.size wo).alloc (Nat.le_refl _) (.cells #[.int .i64 px, .int .i64 py] 24))
        have HXB := hide (Blk.new wo 24 #[.int .i64 px, .int .i64 py])
        have HPC := hide pc
        have bg0 := World.block_lt_of_cell? _ _ p0
        clear pc
        go_upto_region 11 with fail
        have HX1 := hide (HX.out.trans (HBo.out.mono HX.out.size))
        have HO1 := hide (HO.out.alloc (.cells #[.int .i64 px, .int .i64 py] 24))
        have HPD : Hid (∀ j, j < n → (wo.alloc (.cells #[.int .i64 px, .int .i64 py] 24)).cell? ⟨g, j * 2, none⟩ = some (.int .i64 (P j).1) ∧ (wo.alloc (.cells #[.int .i64 px, .int .i64 py] 24)).cell? ⟨g, j * 2 + 1, none⟩ = some (.int .i64 (P j).2)) := hide (fun j hj => ⟨(HBo.out.cell (p := ⟨g, j * 2, none⟩) bg0).trans (HPC.out j hj).1, (HBo.out.cell (p := ⟨g, j * 2 + 1, none⟩) bg0).trans (HPC.out j hj).2⟩)
        have x0 := HXB.out.cell 0
        have x1 := HXB.out.cell 1
        obtain ⟨g9, Hg9⟩ : ∃ g, Hid (g = wo.heap.size) := ⟨_, rfl⟩
        rw [← Hg9.out] at x0 x1
        rw [← Hg9.out]
        clear HPC p0 p1 HO HXB HX HBo
        generalize wo.alloc (.cells #[.int .i64 px, .int .i64 py] 24) = w3 at *
        change w3.cell? ⟨g9, 0, none⟩ = some (.int .i64 px) at x0
        change w3.cell? ⟨g9, 1, none⟩ = some (.int .i64 py) at x1
        go_cut [108] (fun v wc => v = .bool sk ∧ ∃ q, wc = w3.drewN q)
        case first => as_aux_lemma =>
          have HSK : Hid (sk = (decide (0 < i) && decide (i + 1 < n) && colB (P (i - 1)) (P i) (P (i + 1)))) := hide Hsk.out
          by_cases hi0 : i = 0
          · subst hi0
            have HV : Hid (sk = false) := hide (by rw [HSK.out]; rfl)
            clear HSK Hsk HST
            go_quiet (fail)
            go_wp2_with fail
            go_meet
            exact ⟨by rw [HV.out], _, rfl⟩
          · have d1 : decide (0 < i) = true := decide_eq_true (by omega)
            have d3 : decide ((i : Int) > 0) = true := decide_eq_true (by omega)
            have d4 : (0 : Int) < (i : Int) := by omega
            have e2 : IntKind.i64.wrap ((i : Int) + 1) = (i : Int) + 1 := IntWalk.i64_in _ (by omega)
            by_cases hin : i + 1 = n
            · have HV : Hid (sk = false) := hide (by rw [HSK.out, show decide (i + 1 < n) = false from decide_eq_false (by omega)]; simp)
              have d5 : decide ((i : Int) + 1 < (n : Int)) = false := decide_eq_false (by omega)
              have d6 : ¬ (i : Int) + 1 < (n : Int) := by omega
              clear HSK Hsk HST hin
              go_quiet (fail)
              go_wp2_with fail
              go_meet
              exact ⟨by rw [HV.out], _, rfl⟩
            · have d2 : decide (i + 1 < n) = true := decide_eq_true (by omega)
              obtain ⟨ip, Hip⟩ : ∃ m : Nat, Hid (m = i - 1) := ⟨_, rfl⟩
              obtain ⟨iq, Hiq⟩ : ∃ m : Nat, Hid (m = i + 1) := ⟨_, rfl⟩
              have e3 : (i : Int) - 1 = (ip : Int) := by have := Hip.out; omega
              have e4 : (i : Int) + 1 = (iq : Int) := by have := Hiq.out; omega
              have hipn : ip < n := by have := Hip.out; omega
              have hiqn : iq < n := by have := Hiq.out; omega
              obtain ⟨a0, a1⟩ := HPD.out ip hipn
              obtain ⟨c0, c1⟩ := HPD.out iq hiqn
              rw [← Hip.out, ← Hiq.out] at HSK
              unfold colB at HSK
              obtain ⟨ax, Hax⟩ : ∃ z : Int, Hid (z = (P ip).1) := ⟨_, rfl⟩
              obtain ⟨ay, Hay⟩ : ∃ z : Int, Hid (z = (P ip).2) := ⟨_, rfl⟩
              obtain ⟨cx, Hcx⟩ : ∃ z : Int, Hid (z = (P iq).1) := ⟨_, rfl⟩
              obtain ⟨cy, Hcy⟩ : ∃ z : Int, Hid (z = (P iq).2) := ⟨_, rfl⟩
              rw [← Hax.out] at a0 HSK
              rw [← Hay.out] at a1 HSK
              rw [← Hcx.out] at c0 HSK
              rw [← Hcy.out] at c1 HSK
              rw [← Hpx.out, ← Hpy.out] at HSK
              have e5 : IntKind.i64.wrap (ip : Int) = (ip : Int) := IntWalk.i64_in _ (by omega)
              have e6 : IntKind.i64.wrap (iq : Int) = (iq : Int) := IntWalk.i64_in _ (by omega)
              have e7 : IntKind.i64.wrap ((i : Int) + 1) = (iq : Int) := by rw [e4, e6]
              have e8 : IntKind.i64.wrap ((i : Int) - 1) = (ip : Int) := by rw [e3, e5]
              have j1 : (0 : Int) ≤ (ip : Int) := by omega
              have j2 : (ip : Int) < (n : Int) := by omega
              have j3 : (0 : Int) ≤ (iq : Int) := by omega
              have j4 : (iq : Int) < (n : Int) := by omega
              have j5 : decide ((iq : Int) < (n : Int)) = true := decide_eq_true j4
              have j6 : decide (iq < n) = true := decide_eq_true hiqn
              clear e2 Hsk HST hin Hpx Hpy hi0 HPD
              cases h1 : (ax == px) with
              | false =>
                cases h3 : (ay == py) with
                | false =>
                  have HV : Hid (sk = false) := hide (by rw [HSK.out, d1, j6, h1, h3]; rfl)
                  clear HSK
                  go_quiet (fail)
                  go_wp2_with fail
                  go_meet
                  exact ⟨by rw [HV.out], _, rfl⟩
                | true =>
                  cases h4 : (py == cy) with
                  | false =>
                    have HV : Hid (sk = false) := hide (by rw [HSK.out, d1, j6, h1, h3, h4]; rfl)
                    clear HSK
                    go_quiet (fail)
                    go_wp2_with fail
                    go_meet
                    exact ⟨by rw [HV.out], _, rfl⟩
                  | true =>
                    have HV : Hid (sk = true) := hide (by rw [HSK.out, d1, j6, h1, h3, h4]; rfl)
                    clear HSK
                    go_quiet (fail)
                    go_wp2_with fail
                    go_meet
                    exact ⟨by rw [HV.out], _, rfl⟩
              | true =>
                cases h2 : (px == cx) with
                | false =>
                  cases h3 : (ay == py) with
                  | false =>
                    have HV : Hid (sk = false) := hide (by rw [HSK.out, d1, j6, h1, h2, h3]; rfl)
                    clear HSK
                    go_quiet (fail)
                    go_wp2_with fail
                    go_meet
                    exact ⟨by rw [HV.out], _, rfl⟩
                  | true =>
                    cases h4 : (py == cy) with
                    | false =>
                      have HV : Hid (sk = false) := hide (by rw [HSK.out, d1, j6, h1, h2, h3, h4]; rfl)
                      clear HSK
                      go_quiet (fail)
                      go_wp2_with fail
                      go_meet
                      exact ⟨by rw [HV.out], _, rfl⟩
                    | true =>
                      have HV : Hid (sk = true) := hide (by rw [HSK.out, d1, j6, h1, h2, h3, h4]; rfl)
                      clear HSK
                      go_quiet (fail)
                      go_wp2_with fail
                      go_meet
                      exact ⟨by rw [HV.out], _, rfl⟩
                | true =>
                  have HV : Hid (sk = true) := hide (by rw [HSK.out, d1, j6, h1, h2]; rfl)
                  clear HSK
                  go_quiet (fail)
                  go_wp2_with fail
                  go_meet
                  exact ⟨by rw [HV.out], _, rfl⟩
        case rest =>
          obtain ⟨rfl, q, rfl⟩ := hcut
          have HX4 := hide (below_drewN HX1.out q)
          have HO4 := hide (own_drewN HO1.out q)
          have x0 : (w3.drewN q).cell? ⟨g9, 0, none⟩ = some (.int .i64 px) := x0
          have x1 : (w3.drewN q).cell? ⟨g9, 1, none⟩ = some (.int .i64 py) := x1
          clear HX1 HO1 HPD
          generalize w3.drewN q = w4 at *
          cases sk with
          | true =>
            have HM2 : Hid ((List.range m).map Q = shK P n (i + 1)) := hide (by rw [HST.out, if_pos rfl, List.append_nil]; exact HM.out)
            clear HST HM x0 x1
            go_wp2_with fail
            go_roundw
            case rel => exact ⟨i + 1, m, A, c2, Q, by go_num, rfl, by omega, by omega, HM2, HO4, HX4⟩
            case measure => (simp [intOf]; omega)
          | false =>
            have HM2 : Hid ((List.range (m + 1)).map (upd Q m (px, py)) = shK P n (i + 1)) := hide (by rw [HST.out, if_neg (by decide), map_push, HM.out, Hpx.out, Hpy.out])
            have hO4 := HO4.out
            have hX4 := HX4.out
            have hxs := hX4.size
            clear HST HM
            go_wp2_with (at_builtin; refine wpL_append rfl rfl Try.underlying29 pt_info rfl (by decide) rfl rfl (hO4.alloc _) (news_at _ _ _ _ (by simp)) rfl (by simp [Value.oneCell']) (by omega) (by omega) (by simp; omega) ?_; intro v1 w5 hown5 hgrow5; obtain ⟨A5, c5, rfl⟩ := own_form hown5)
            have HX5 := hide (below_app (hX4.alloc hxs _) (by simp; omega) (hO4.alloc _) hgrow5)
            have HO5 := hown5
            rw [show rowF m 2 (ptF Q) ++ [Value.int .i64 px, Value.int .i64 py] = rowF (m + 1) 2 (ptF (upd Q m (px, py))) by rw [ptF_push]] at HO5
            have HO6 := hide HO5
            clear hown5 HO5 hgrow5 hO4 hX4 HO4 HX4
            go_roundw
            case rel => exact ⟨i + 1, m + 1, A5, c5, upd Q m (px, py), by go_num, rfl, by omega, by omega, HM2, HO6, HX5⟩
            case measure => (simp [intOf]; omega)
      · obtain rfl : i = n := by omega
        have HM2 : Hid ((List.range m).map Q = short P i) := hide (by rw [HM.out, shK_end])
        have HO2 := hide (ownsRow_less HO.out HB2.out.size)
        have HX2 := hide (HB2.out.trans (HX.out.mono HB2.out.size))
        clear HM HO HX
        go_wp2_with fail
        go_ret
        exact ⟨A, m, c2, Q, rfl, HO2.out, HM2.out, HX2.out⟩
end
end Go.Proofs.Ytegmokdhfmgdgaa.Rt
