/- The contract of timeline.State. -/
import Derived.Test.YtlipdhoeklgdoaaTlStPlain
import Derived.Test.YtlipdhoeklgdoaaTlSort
import Derived.Test.YtlipdhoeklgdoaaTlTimes
import Derived.Test.YtlipdhoeklgdoaaSink
namespace Go.Proofs.Ytlipdhoeklgdoaa.Tl
open Go.RowKit Go.Frm

theorem item_info : (Try.prog.info? 42).map (fun i => (i.zero, i.size, i.bytes)) = some (some (.agg #[.int .i64 0, .int .i64 0, .int .i64 0, .int .i64 0]), 4, 32) := by kernel_rfl
theorem bool_info : (Try.prog.info? 4).map (fun i => (i.zero, i.size, i.bytes)) = some (some (.bool false), 1, 1) := by kernel_rfl

def StPost (n : Nat) (F : Nat → Nat → Int) (click at_ : Int) (w : World) (e : Ending) (w' : World) : Prop :=
  ∃ A' c', e = .returned (.tuple #[.slice A' (sD F n).length c', .int .i64 0]) ∧ w'.ownsRow w.heap.size 42 4 (.slice A' (sD F n).length c') (sD F n).length (rowF (sD F n).length 4 (stV F (pF F click at_) n (sD F n))) ∧ Below w.heap.size w w'

set_option maxRecDepth 100000 in
set_option maxHeartbeats 8000000 in
theorem state_ok (A : Option Addr) (n c : Nat) (F : Nat → Nat → Int) (click at_ : Int) (w : World) (hv : VF F n) (hr : RdF w A n 7 (efV F)) (hl0 : 0 ≤ click) (hl1 : click ≤ 200) (ha0 : 0 ≤ at_) (ha1 : at_ ≤ 10000000) :
    Calls Try.prog 15 #[.slice A n c, .int .i64 click, .int .i64 at_] w (StPost n F click at_ w) := by
  have hn := hv.few
  have hch := check_ok A n c F w hv hr
  have htm := hide (fun wx (hx : Below w.heap.size w wx) => times_ok A n c F wx hv (hr.below hx))
  have Hv := hide hv
  have hp : ∀ i, 0 ≤ pF F click at_ i ∧ pF F click at_ i ≤ 1000 := fun i => pg_bd
  have Hp := hide hp
  clear hv hp
  go_enter Try.func15, Try.ntmps15
  go_wp2_with fail
  refine hch.mono ?_
  rintro e w1 ⟨rfl, hb1⟩
  clear hch
  have d1 : decide (click < 0) = false := by simp; omega
  have d2 : decide (click > 200) = false := by simp; omega
  have d3 : decide (at_ < 0) = false := by simp; omega
  have d4 : decide (at_ > 10000000) = false := by simp; omega
  go_wp2_with fail
  refine (htm.out w1 hb1).mono ?_
  rintro e w2 ⟨A2, c2, rfl, hown2, hb2⟩
  have hbl2 := hb1.trans (hb2.mono hb1.size)
  have hr2 := hr.below hbl2
  have ht2 := RdF.of_own hown2
  clear htm hr hown2 hb1 hb2 d1 d2 d3 d4
  generalize hpp : pF F click at_ = p at *
  have Hpp := hide hpp
  clear hpp
  go_wp2_with fail
  go_loopw [9, 10, 39] (fun a b s wr => ∃ (i : Nat) (A9 A10 : Option Addr) (c9 c10 : Nat), i ≤ n ∧ s = .int .i64 i ∧ a = .slice A9 (D F i).length c9 ∧ b = .slice A10 (D F i).length c10 ∧ Sat (D F i).length (fL F p i (D F i)) (kL F i (D F i)) A9 A10 c9 c10 w2 wr) (fun _ _ s _ => n - (intOf s).toNat)
  case atStart => exact ⟨0, none, none, 0, 0, by omega, rfl, rfl, rfl, ⟨World.ownsRow_nil _ _ _ _, World.ownsRow_nil _ _ _ _, Below.refl _ _⟩⟩
  case round =>
    obtain ⟨i, A9, A10, c9, c10, hin, rfl, rfl, rfl, hs⟩ := hrel
    by_cases hlt : i < n
    · obtain ⟨b, off, rfl, k0, k1, k2, k3, k4, k5, k6⟩ := cells7 (hr2.below hs.bel) hlt
      have hdl := D_len F i
      go_upto_region 12 with fail
      have b7 : Blk (wr.alloc (.cells #[.int .i64 (F i 0), .int .i64 (F i 1), .int .i64 (F i 2), .int .i64 (F i 3), .int .i64 (F i 4), .int .i64 (F i 5), .int .i64 (F i 6)] 45)) wr.heap.size 45 (efC F i) := Blk.new wr _ _
      have hs7 := hs.alloc (.cells #[.int .i64 (F i 0), .int .i64 (F i 1), .int .i64 (F i 2), .int .i64 (F i 3), .int .i64 (F i 4), .int .i64 (F i 5), .int .i64 (F i 6)] 45)
      have hgw : w2.heap.size ≤ wr.heap.size := hs.bel.size
      have hnot9 : some wr.heap.size ≠ (Value.slice A9 (D F i).length c9).ownBlock := fun hh => by have := (hs.own.lt _ hh.symm).2; omega
      have hnot10 : some wr.heap.size ≠ (Value.slice A10 (D F i).length c10).ownBlock := fun hh => by have := (hs.know.lt _ hh.symm).2; omega
      clear k0 k1 k2 k3 k4 k5 k6 hs
      generalize wr.alloc (.cells #[.int .i64 (F i 0), .int .i64 (F i 1), .int .i64 (F i 2), .int .i64 (F i 3), .int .i64 (F i 4), .int .i64 (F i 5), .int .i64 (F i 6)] 45) = w0 at *
      generalize wr.heap.size = g at *
      have m0 : w0.cell? ⟨g, 0, none⟩ = some (.int .i64 (F i 0)) := b7.cell 0
      obtain ⟨r, hfr⟩ := firstAt (fL F p i (D F i)) (F i 0) (D F i).length
      have hid := hide (indexFunc_ok A9 (D F i).length c9 (fL F p i (D F i)) (F i 0) g w0 (RdF.of_own hs7.own) (by omega) m0 r hfr)
      have Hfr := hide hfr
      clear hfr
      go_wp2_with fail
      refine hid.out.mono ?_
      rintro e w3 ⟨rfl, hb3⟩
      have hs3 := hs7.below hb3
      have b3 := b7.below hb3 b7.lt
      clear hid hs7 b7 hb3 m0
      have m0 : w3.cell? ⟨g, 0, none⟩ = some (.int .i64 (F i 0)) := b3.cell 0
      go_upto_if 48 with fail
      go_cut [9, 10, 14] (fun a b k wc => ∃ (A9 A10 : Option Addr) (c9 c10 kk : Nat), a = .slice A9 (D F (i + 1)).length c9 ∧ b = .slice A10 (D F (i + 1)).length c10 ∧ k = .int .i64 kk ∧ kk < (D F (i + 1)).length ∧ ix (D F (i + 1)) kk = F i 0 ∧
        Sat (D F (i + 1)).length (fL F p i (D F (i + 1))) (kL F i (D F (i + 1))) A9 A10 c9 c10 w2 wc ∧ Blk wc g 45 (efC F i))
      case first =>
        rcases Hfr.out with ⟨kk, rfl, hkl, hki, _⟩ | ⟨rfl, hno⟩
        · have hz : ix (D F i) kk = F i 0 := hki
          have hmem : F i 0 ∈ D F i := by
            rw [← hz, ix_eq hkl]
            exact List.getElem_mem hkl
          have hD := hide (show D F (i + 1) = D F i by rw [D_succ, if_pos hmem])
          have dk : decide ((kk : Int) < 0) = false := by simp
          have Hz := hide hz
          clear hki hz hmem
          go_wp2_with fail
          go_meet
          rw [hD.out]
          exact ⟨A9, A10, c9, c10, kk, rfl, rfl, rfl, hkl, Hz.out, hs3, b3⟩
        · have hmem : F i 0 ∉ D F i := fun hm => by
            obtain ⟨a, ha, hae⟩ := List.mem_iff_getElem.1 hm
            refine hno a ha ?_
            show ix (D F i) a = F i 0
            rw [ix_eq ha]
            exact hae
          have Hmem := hide hmem
          clear hmem hno
          have hoa := hs3.own.alloc (.cells #[.int .i64 (F i 0), .int .i64 1000, .int .i64 0, .int .i64 0] 42)
          have hka := hs3.know.alloc (.cells #[.int .i64 (F i 0), .int .i64 1000, .int .i64 0, .int .i64 0] 42)
          have hba := hs3.bel.alloc hs3.bel.size (.cells #[.int .i64 (F i 0), .int .i64 1000, .int .i64 0, .int .i64 0] 42)
          have b3a := b3.alloc (.cells #[.int .i64 (F i 0), .int .i64 1000, .int .i64 0, .int .i64 0] 42)
          have hnew := news_at w3 #[.int .i64 (F i 0), .int .i64 1000, .int .i64 0, .int .i64 0] 42 w3.heap.size rfl
          go_wp2_with (first
            | (at_builtin; refine wpL_append (size := 4) rfl rfl Try.underlying37 item_info rfl (by decide) rfl rfl hoa hnew rfl (by simp [Value.oneCell']) (by omega) (by omega) (by have := hba.size; omega) ?_; intro v1 w5 hown5 hgrow5)
            | (at_builtin; refine wpL_append (size := 1) rfl rfl Try.underlying63 bool_info rfl (by decide) rfl rfl ((hka.kept hgrow5 (own_ne hka hoa (by decide))).alloc (.cells #[.bool false] 4)) (news_at w5 #[.bool false] 4 w5.heap.size rfl) rfl (by simp [Value.oneCell']) (by omega) (by omega) (by have := hgrow5.size; have := hba.size; simp; omega) ?_; intro v2 w6 hown6 hgrow6))
          go_meet
          have hb5 := below_app hba hba.size hoa hgrow5
          have hk5 := hka.kept hgrow5 (own_ne hka hoa (by decide))
          have hown5a := hown5.alloc (.cells #[.bool false] 4)
          have hb5a := hb5.alloc hb5.size (.cells #[.bool false] 4)
          have hk5a := hk5.alloc (.cells #[.bool false] 4)
          have hb6 := below_app hb5a hb5a.size hk5a hgrow6
          have hown6' := hown5a.kept hgrow6 (own_ne hown5a hk5a (by decide))
          have b5 := b3a.grown hgrow5 (by exact hnot9)
          have b6 := (b5.alloc (.cells #[.bool false] 4)).grown hgrow6 (by exact hnot10)
          have eL : (D F i).length + 1 = (D F (i + 1)).length := by rw [D_succ, if_neg Hmem.out]; simp
          have eZ : ix (D F (i + 1)) (D F i).length = F i 0 := by rw [D_succ, if_neg Hmem.out, ix_append_right (Nat.le_refl _), Nat.sub_self]; rfl
          have ro := row_fresh (p := p) Hmem.out
          have rk := know_fresh Hmem.out
          obtain ⟨A9', c9', rfl⟩ := own_form hown6'
          obtain ⟨A10', c10', rfl⟩ := own_form hown6
          exact ⟨A9', A10', c9', c10', (D F i).length, by rw [eL], by rw [eL], rfl, by omega, eZ, ⟨by rw [← ro, ← eL]; exact hown6', by rw [← rk, ← eL]; exact hown6, hb6⟩, b6⟩
      case rest =>
        clear hs3 b3 hnot9 hnot10 hdl m0
        obtain ⟨A9', A10', c9', c10', kk, rfl, rfl, rfl, hkl, hkz, hs, b7⟩ := hcut
        have hdl := D_len F (i + 1)
        have hnd := hide (D_nodup F (i + 1))
        generalize hL : D F (i + 1) = L at *
        have HL := hide hL
        have Hkz := hide hkz
        clear hL hkz Hfr
        obtain ⟨b2, o2, rfl, ht⟩ := (ht2.below hs.bel).at_ hlt
        have t0 : wc.cell? ⟨b2, o2 + i * 3, none⟩ = some (.int .i64 (ck F (i + 1))) := ht 0 (by omega)
        have t1 : wc.cell? ⟨b2, o2 + i * 3 + 1, none⟩ = some (.int .i64 (frm F i)) := ht 1 (by omega)
        have t2 : wc.cell? ⟨b2, o2 + i * 3 + 2, none⟩ = some (.int .i64 (til F i)) := ht 2 (by omega)
        clear ht
        obtain ⟨z0, z1, z2⟩ := frm_bd Hv.out hlt
        have hprog := progress_ok (ck F (i + 1)) (frm F i) (til F i) click at_ wc z0 z1 z2 hl0 hl1 ha0 ha1
        have hpi : pg (ck F (i + 1)) (frm F i) (til F i) click at_ = p i := by rw [← Hpp.out]; rfl
        rw [hpi] at hprog
        have Hprog := hide hprog
        clear hprog hpi z0 z1 z2
        go_wp2_with fail
        refine Hprog.out.mono ?_
        rintro e w4 ⟨rfl, hb4⟩
        have hs4 := hs.below hb4
        have b4 := b7.below hb4 b7.lt
        clear hs b7 hb4 Hprog t0 t1 t2
        obtain ⟨g9, rfl, hg9⟩ := own_at hs4.own (by omega)
        obtain ⟨g10, rfl, hg10⟩ := own_at hs4.know (by omega)
        obtain ⟨p0, p1⟩ := Hp.out i
        have m1 : w4.cell? ⟨g, 1, none⟩ = some (.int .i64 (F i 1)) := b4.cell 1
        have m5 : w4.cell? ⟨g, 5, none⟩ = some (.int .i64 (F i 5)) := b4.cell 5
        have m6 : w4.cell? ⟨g, 6, none⟩ = some (.int .i64 (F i 6)) := b4.cell 6
        obtain ⟨x0, x1⟩ := Hv.out.xs i hlt
        obtain ⟨y0, y1⟩ := Hv.out.ys i hlt
        have s0 : (0 : Int) ≤ (kk : Int) := by omega
        have s1 : (kk : Int) < (L.length : Int) := by omega
        by_cases h2 : F i 1 = 2
        · have d2 : (F i 1 == 2) = true := by simpa using h2
          have H2 := hide h2
          clear h2
          have f2 : w4.cell? ⟨g9, kk * 4 + 2, none⟩ = some (.int .i64 (fL F p i L kk 2)) := own_cellF hs4.own hkl (by omega)
          have f3 : w4.cell? ⟨g9, kk * 4 + 3, none⟩ = some (.int .i64 (fL F p i L kk 3)) := own_cellF hs4.own hkl (by omega)
          obtain ⟨q0, q1⟩ : -6000 ≤ fL F p i L kk 2 ∧ fL F p i L kk 2 ≤ 6000 := by
            have := xA_bd Hv.out.xs Hp.out (ix L kk) i hin
            show -6000 ≤ xA F p 5 (ix L kk) i ∧ xA F p 5 (ix L kk) i ≤ 6000
            omega
          obtain ⟨q2, q3⟩ : -6000 ≤ fL F p i L kk 3 ∧ fL F p i L kk 3 ≤ 6000 := by
            have := xA_bd Hv.out.ys Hp.out (ix L kk) i hin
            show -6000 ≤ xA F p 6 (ix L kk) i ∧ xA F p 6 (ix L kk) i ≤ 6000
            omega
          obtain ⟨r0, r1, _, _⟩ := pt_bd x0 x1 p0 p1
          obtain ⟨r2, r3, _, _⟩ := pt_bd y0 y1 p0 p1
          have Hp5 := hide (fun wx => part_ok (F i 5) (p i) wx x0 x1 p0 p1)
          have Hp6 := hide (fun wx => part_ok (F i 6) (p i) wx y0 y1 p0 p1)
          have w5' : IntKind.i64.wrap (fL F p i L kk 2 + pt (F i 5) (p i)) = fL F p i L kk 2 + pt (F i 5) (p i) := IntWalk.i64_in _ (by omega)
          have w6' : IntKind.i64.wrap (fL F p i L kk 3 + pt (F i 6) (p i)) = fL F p i L kk 3 + pt (F i 6) (p i) := IntWalk.i64_in _ (by omega)
          have zf2 := own_froz hs4.own (kk * 4 + 2)
          have hgg := blk_ne b4 hs4.own (by decide)
          have hs5 := (hs4.setF (k := kk) (j := 2) (by omega) hg9 (fL F p i L kk 2 + pt (F i 5) (p i))).drewN 1
          have b5 := (b4.far (p := ⟨g9, kk * 4 + 2, none⟩) hgg (.int .i64 (fL F p i L kk 2 + pt (F i 5) (p i)))).drewN 1
          go_upto_region 18 with fail
          refine wp_region_sink (S := fun w' => w'.cell? ⟨g9, kk * 4 + 2, none⟩ = some (.int .i64 (fL F p i L kk 2)) ∧ w'.cell? ⟨g, 5, none⟩ = some (.int .i64 (F i 5))) 12 (by kernel_rfl) (by kernel_rfl) (by kernel_rfl) (by kernel_rfl) ?hSA (fun hHeld => ?_)
          case hSA => exact ⟨f2, m5⟩
          simp only [List.take_succ_cons, List.take_zero]
          refine wpAnyH_take (i := 0) (v := ?vAn0) rfl (by kernel_rfl) (by kernel_rfl) (by kernel_rfl) (fun _ _ _ h => h) (Or.inl ⟨by rfl, ?hyAn0⟩) (by assumption) ?_
          case hyAn0 => (intro w hSw; (try dsimp only at hSw); go_simp; try with_reducible rfl)
          try simp only [Act.put]
          refine wpAnyH_take (i := 1) (v := ?vAn1) rfl (by kernel_rfl) (by kernel_rfl) (by kernel_rfl) (fun _ _ _ h => h) (Or.inl ⟨by rfl, ?hyAn1⟩) (by assumption) ?_
          case hyAn1 => (intro w hSw; (try dsimp only at hSw); go_simp; try with_reducible rfl)
          try simp only [Act.put]
          refine wpAnyH_take (i := 2) (v := ?vAn2) rfl (by kernel_rfl) (by kernel_rfl) (by kernel_rfl) (fun _ _ _ h => h) (Or.inl ⟨by rfl, ?hyAn2⟩) (by assumption) ?_
          case hyAn2 => (intro w hSw; (try dsimp only at hSw); go_simp; try with_reducible rfl)
          try simp only [Act.put]
          refine wpAnyH_take (i := 3) (v := ?vAn3) rfl (by kernel_rfl) (by kernel_rfl) (by kernel_rfl) (fun _ _ _ h => h) (Or.inl ⟨by rfl, ?hyAn3⟩) (by assumption) ?_
          case hyAn3 => (intro w hSw; (try dsimp only at hSw); go_simp; try with_reducible rfl)
          try simp only [Act.put]
          refine wpAnyH_take (i := 4) (v := ?vAn4) rfl (by kernel_rfl) (by kernel_rfl) (by kernel_rfl) (fun _ _ _ h => h) (Or.inl ⟨by rfl, ?hyAn4⟩) (by assumption) ?_
          case hyAn4 => (intro w hSw; (try dsimp only at hSw); go_simp; try with_reducible rfl)
          try simp only [Act.put]
          refine wpAnyH_take (i := 5) (v := ?vAn5) rfl (by kernel_rfl) (by kernel_rfl) (by kernel_rfl) (fun _ _ _ h => h) (Or.inl ⟨by rfl, ?hyAn5⟩) (by assumption) ?_
          case hyAn5 => (intro w hSw; (try dsimp only at hSw); go_simp; try with_reducible rfl)
          try simp only [Act.put]
          refine wpAnyH_take (i := 6) (v := ?vAn6) rfl (by kernel_rfl) (by kernel_rfl) (by kernel_rfl) (fun _ _ _ h => h) (Or.inl ⟨by rfl, ?hyAn6⟩) (by assumption) ?_
          case hyAn6 => (intro w hSw; (try dsimp only at hSw); go_simp; try with_reducible rfl)
          try simp only [Act.put]
          refine wpAnyH_take (i := 7) (v := ?vAn7) rfl (by kernel_rfl) (by kernel_rfl) (by kernel_rfl) (fun _ _ _ h => h) (Or.inl ⟨by rfl, ?hyAn7⟩) (by assumption) ?_
          case hyAn7 => (intro w hSw; (try dsimp only at hSw); go_simp; try with_reducible rfl)
          try simp only [Act.put]
          refine wpAnyH_ready (rs := [8]) (by kernel_rfl) (by simp) (AllReadyH.cons rfl (fun K hK => ?_) AllReadyH.nil)
          go_simp
          go_at_call 29
          with_reducible refine (Hp5.out _).mono ?_
          rintro e wA ⟨rfl, rfl⟩
          refine hK.out _ _ ?hkAn8 (fun hHeld => ?_)
          case hkAn8 => exact hHeld
          clear hK K
          try simp only [Act.put]
          refine wpAnyH_take (i := 9) (v := ?vAn9) rfl (by kernel_rfl) (by kernel_rfl) (by kernel_rfl) (fun _ _ _ h => h) (Or.inl ⟨by rfl, ?hyAn9⟩) (by assumption) ?_
          case hyAn9 => (intro w hSw; (try dsimp only at hSw); go_simp; try with_reducible rfl)
          try simp only [Act.put]
          refine wpAnyH_take (i := 10) (v := ?vAn10) rfl (by kernel_rfl) (by kernel_rfl) (by kernel_rfl) (fun _ _ _ h => h) (Or.inl ⟨by rfl, ?hyAn10⟩) (by assumption) ?_
          case hyAn10 => (intro w hSw; (try dsimp only at hSw); go_simp; try with_reducible rfl)
          try simp only [Act.put]
          refine wpAnyH_take (i := 11) (v := ?vAn11) rfl (by kernel_rfl) (by kernel_rfl) (by kernel_rfl) (fun _ _ _ h => h) (Or.inl ⟨by rfl, ?hyAn11⟩) (by assumption) ?_
          case hyAn11 => (intro w hSw; (try dsimp only at hSw); go_simp; try with_reducible rfl)
          try simp only [Act.put]
          refine wpAnyH_done (by kernel_rfl) ?_ _
          refine sink_run rfl rfl ?_
          go_simp
          go_upto_region 19 with fail
          change Sat _ _ _ _ _ _ _ _ (w4.setCell ⟨g9, kk * 4 + 2, none⟩ (.int .i64 (fL F p i L kk 2 + pt (F i 5) (p i)))).drew at hs5
          change Blk (w4.setCell ⟨g9, kk * 4 + 2, none⟩ (.int .i64 (fL F p i L kk 2 + pt (F i 5) (p i)))).drew _ _ _ at b5
          clear f2 f3 m1 m5 m6 zf2 hs4 b4
          generalize (w4.setCell ⟨g9, kk * 4 + 2, none⟩ (.int .i64 (fL F p i L kk 2 + pt (F i 5) (p i)))).drew = w5 at *
          have m6 : w5.cell? ⟨g, 6, none⟩ = some (.int .i64 (F i 6)) := b5.cell 6
          have f3 : w5.cell? ⟨g9, kk * 4 + 3, none⟩ = some (.int .i64 (fL F p i L kk 3)) := by
            rw [own_cellF hs5.own hkl (by omega : 3 < 4)]
            simp [updI]
          have zf3 := own_froz hs5.own (kk * 4 + 3)
          have hs6 := (hs5.setF (k := kk) (j := 3) (by omega) hg9 (fL F p i L kk 3 + pt (F i 6) (p i))).drewN 1
          clear hs5 b5
          refine wp_region_sink (S := fun w' => w'.cell? ⟨g9, kk * 4 + 3, none⟩ = some (.int .i64 (fL F p i L kk 3)) ∧ w'.cell? ⟨g, 6, none⟩ = some (.int .i64 (F i 6))) 12 (by kernel_rfl) (by kernel_rfl) (by kernel_rfl) (by kernel_rfl) ?hSB (fun hHeld => ?_)
          case hSB => exact ⟨f3, m6⟩
          simp only [List.take_succ_cons, List.take_zero]
          refine wpAnyH_take (i := 0) (v := ?vBn0) rfl (by kernel_rfl) (by kernel_rfl) (by kernel_rfl) (fun _ _ _ h => h) (Or.inl ⟨by rfl, ?hyBn0⟩) (by assumption) ?_
          case hyBn0 => (intro w hSw; (try dsimp only at hSw); go_simp; try with_reducible rfl)
          try simp only [Act.put]
          refine wpAnyH_take (i := 1) (v := ?vBn1) rfl (by kernel_rfl) (by kernel_rfl) (by kernel_rfl) (fun _ _ _ h => h) (Or.inl ⟨by rfl, ?hyBn1⟩) (by assumption) ?_
          case hyBn1 => (intro w hSw; (try dsimp only at hSw); go_simp; try with_reducible rfl)
          try simp only [Act.put]
          refine wpAnyH_take (i := 2) (v := ?vBn2) rfl (by kernel_rfl) (by kernel_rfl) (by kernel_rfl) (fun _ _ _ h => h) (Or.inl ⟨by rfl, ?hyBn2⟩) (by assumption) ?_
          case hyBn2 => (intro w hSw; (try dsimp only at hSw); go_simp; try with_reducible rfl)
          try simp only [Act.put]
          refine wpAnyH_take (i := 3) (v := ?vBn3) rfl (by kernel_rfl) (by kernel_rfl) (by kernel_rfl) (fun _ _ _ h => h) (Or.inl ⟨by rfl, ?hyBn3⟩) (by assumption) ?_
          case hyBn3 => (intro w hSw; (try dsimp only at hSw); go_simp; try with_reducible rfl)
          try simp only [Act.put]
          refine wpAnyH_take (i := 4) (v := ?vBn4) rfl (by kernel_rfl) (by kernel_rfl) (by kernel_rfl) (fun _ _ _ h => h) (Or.inl ⟨by rfl, ?hyBn4⟩) (by assumption) ?_
          case hyBn4 => (intro w hSw; (try dsimp only at hSw); go_simp; try with_reducible rfl)
          try simp only [Act.put]
          refine wpAnyH_take (i := 5) (v := ?vBn5) rfl (by kernel_rfl) (by kernel_rfl) (by kernel_rfl) (fun _ _ _ h => h) (Or.inl ⟨by rfl, ?hyBn5⟩) (by assumption) ?_
          case hyBn5 => (intro w hSw; (try dsimp only at hSw); go_simp; try with_reducible rfl)
          try simp only [Act.put]
          refine wpAnyH_take (i := 6) (v := ?vBn6) rfl (by kernel_rfl) (by kernel_rfl) (by kernel_rfl) (fun _ _ _ h => h) (Or.inl ⟨by rfl, ?hyBn6⟩) (by assumption) ?_
          case hyBn6 => (intro w hSw; (try dsimp only at hSw); go_simp; try with_reducible rfl)
          try simp only [Act.put]
          refine wpAnyH_take (i := 7) (v := ?vBn7) rfl (by kernel_rfl) (by kernel_rfl) (by kernel_rfl) (fun _ _ _ h => h) (Or.inl ⟨by rfl, ?hyBn7⟩) (by assumption) ?_
          case hyBn7 => (intro w hSw; (try dsimp only at hSw); go_simp; try with_reducible rfl)
          try simp only [Act.put]
          refine wpAnyH_ready (rs := [8]) (by kernel_rfl) (by simp) (AllReadyH.cons rfl (fun K hK => ?_) AllReadyH.nil)
          go_simp
          go_at_call 29
          with_reducible refine (Hp6.out _).mono ?_
          rintro e wA ⟨rfl, rfl⟩
          refine hK.out _ _ ?hkBn8 (fun hHeld => ?_)
          case hkBn8 => exact hHeld
          clear hK K
          try simp only [Act.put]
          refine wpAnyH_take (i := 9) (v := ?vBn9) rfl (by kernel_rfl) (by kernel_rfl) (by kernel_rfl) (fun _ _ _ h => h) (Or.inl ⟨by rfl, ?hyBn9⟩) (by assumption) ?_
          case hyBn9 => (intro w hSw; (try dsimp only at hSw); go_simp; try with_reducible rfl)
          try simp only [Act.put]
          refine wpAnyH_take (i := 10) (v := ?vBn10) rfl (by kernel_rfl) (by kernel_rfl) (by kernel_rfl) (fun _ _ _ h => h) (Or.inl ⟨by rfl, ?hyBn10⟩) (by assumption) ?_
          case hyBn10 => (intro w hSw; (try dsimp only at hSw); go_simp; try with_reducible rfl)
          try simp only [Act.put]
          refine wpAnyH_take (i := 11) (v := ?vBn11) rfl (by kernel_rfl) (by kernel_rfl) (by kernel_rfl) (fun _ _ _ h => h) (Or.inl ⟨by rfl, ?hyBn11⟩) (by assumption) ?_
          case hyBn11 => (intro w hSw; (try dsimp only at hSw); go_simp; try with_reducible rfl)
          try simp only [Act.put]
          refine wpAnyH_done (by kernel_rfl) ?_ _
          refine sink_run rfl rfl ?_
          go_simp
          go_wp2_with fail
          go_roundw
          case rel => exact ⟨i + 1, some ⟨g9, 0, none⟩, some ⟨g10, 0, none⟩, c9', c10', by omega, by go_num, by rw [HL.out], by rw [HL.out], by rw [HL.out]; exact hs6.congr (fun a b ha hb => by rw [← round_by hnd.out hkl Hkz.out H2.out a b ha hb]) (round_by_k H2.out)⟩
          case measure => simp [intOf]; omega
        · have d2 : (F i 1 == 2) = false := by simpa using h2
          have H2 := hide h2
          clear h2 x0 x1 y0 y1 m5 m6
          have f1 : w4.cell? ⟨g9, kk * 4 + 1, none⟩ = some (.int .i64 (fL F p i L kk 1)) := own_cellF hs4.own hkl (by omega)
          have q10 : w4.cell? ⟨g10, kk, none⟩ = some (.bool (kL F i L kk)) := own_cell hs4.know hkl
          obtain ⟨q0, q1⟩ : 0 ≤ fL F p i L kk 1 ∧ fL F p i L kk 1 ≤ 1000 := sn_bd Hp.out (ix L kk) i
          have zf1 := own_froz hs4.own (kk * 4 + 1)
          have zf2 := own_froz hs4.know kk
          have hgg := blk_ne b4 hs4.own (by decide)
          have hgk := blk_ne b4 hs4.know (by decide)
          have h910 : g9 ≠ g10 := by
            rcases own_ne hs4.own hs4.know (by decide) with h | h
            · cases h
            · intro hh; subst hh; exact h rfl
          have hk0 := Hv.out.kind i hlt
          have Hkn := hide (show kL F i L kk = kn F (F i 0) i from by unfold kL; rw [Hkz.out])
          have Hsn := hide (show fL F p i L kk 1 = sn F p (F i 0) i from by unfold fL; rw [Hkz.out]; rfl)
          have Hnext := hide (show sn F p (F i 0) (i + 1) = if F i 1 = 0 then
        if 0 < p i then (if (if kn F (F i 0) i = false then 0 else sn F p (F i 0) i) < p i then p i else (if kn F (F i 0) i = false then 0 else sn F p (F i 0) i)) else (if kn F (F i 0) i = false then 0 else sn F p (F i 0) i)
      else if 0 < p i then (if 1000 - p i < sn F p (F i 0) i then 1000 - p i else sn F p (F i 0) i) else sn F p (F i 0) i from by rw [sn, if_pos ⟨rfl, H2.out⟩])
          cases hkv : kL F i L kk with
          | false =>
            rw [hkv] at q10
            have Hkv := hide (Hkn.out.symm.trans hkv)
            clear hkv
            by_cases h0 : F i 1 = 0
            · have d0 : (F i 1 == 0) = true := by simpa using h0
              have d1 : (F i 1 == 1) = false := by simp [h0]
              have H0 := hide h0
              clear h0
              by_cases hp0 : 0 < p i
              · have dp : decide (p i > 0) = true := by simpa using hp0
                go_wp2_with fail
                go_roundw
                case rel => exact ⟨i + 1, some ⟨g9, 0, none⟩, some ⟨g10, 0, none⟩, c9', c10', by omega, by go_num, by rw [HL.out], by rw [HL.out], by rw [HL.out]; exact seen_done hnd.out hkl Hkz.out H2.out (by have := ((hs4.setF (k := kk) (j := 1) (by omega) hg9 0).setK (k := kk) hg10 true).setF (k := kk) (j := 1) (by omega) hg9 (max 0 (p i)); rw [updI_twice] at this; exact this) (by rw [Hnext.out, if_pos H0.out, if_pos hp0, Hkv.out]; simp; omega)⟩
                case measure => simp [intOf]; omega
              · have dp : decide (p i > 0) = false := by simpa using hp0
                go_wp2_with fail
                go_roundw
                case rel => exact ⟨i + 1, some ⟨g9, 0, none⟩, some ⟨g10, 0, none⟩, c9', c10', by omega, by go_num, by rw [HL.out], by rw [HL.out], by rw [HL.out]; exact seen_done hnd.out hkl Hkz.out H2.out ((hs4.setF (k := kk) (j := 1) (by omega) hg9 0).setK (k := kk) hg10 true) (by rw [Hnext.out, if_pos H0.out, if_neg (Int.not_lt.2 hp0), Hkv.out]; simp)⟩
                case measure => simp [intOf]; omega
            · have d0 : (F i 1 == 0) = false := by simpa using h0
              have d1 : (F i 1 == 1) = true := by have := H2.out; simp; omega
              have H0 := hide h0
              clear h0
              by_cases hp0 : 0 < p i
              · have dp : decide (p i > 0) = true := by simpa using hp0
                go_wp2_with fail
                go_roundw
                case rel => exact ⟨i + 1, some ⟨g9, 0, none⟩, some ⟨g10, 0, none⟩, c9', c10', by omega, by go_num, by rw [HL.out], by rw [HL.out], by rw [HL.out]; exact seen_done hnd.out hkl Hkz.out H2.out ((hs4.setK (k := kk) hg10 true).setF (k := kk) (j := 1) (by omega) hg9 (min (fL F p i L kk 1) (1000 - p i))) (by rw [Hnext.out, if_neg H0.out, if_pos hp0, ← Hsn.out]; omega)⟩
                case measure => simp [intOf]; omega
              · have dp : decide (p i > 0) = false := by simpa using hp0
                go_wp2_with fail
                go_roundw
                case rel => exact ⟨i + 1, some ⟨g9, 0, none⟩, some ⟨g10, 0, none⟩, c9', c10', by omega, by go_num, by rw [HL.out], by rw [HL.out], by rw [HL.out]; exact seen_done hnd.out hkl Hkz.out H2.out (by have := hs4.setK (k := kk) hg10 true; rw [← updI_self (fL F p i L) kk 1] at this; exact this) (by rw [Hnext.out, if_neg H0.out, if_neg (Int.not_lt.2 hp0), ← Hsn.out])⟩
                case measure => simp [intOf]; omega
          | true =>
            rw [hkv] at q10
            have Hkv := hide (Hkn.out.symm.trans hkv)
            clear hkv
            by_cases h0 : F i 1 = 0
            · have d0 : (F i 1 == 0) = true := by simpa using h0
              have d1 : (F i 1 == 1) = false := by simp [h0]
              have H0 := hide h0
              clear h0
              by_cases hp0 : 0 < p i
              · have dp : decide (p i > 0) = true := by simpa using hp0
                go_wp2_with fail
                go_roundw
                case rel => exact ⟨i + 1, some ⟨g9, 0, none⟩, some ⟨g10, 0, none⟩, c9', c10', by omega, by go_num, by rw [HL.out], by rw [HL.out], by rw [HL.out]; exact seen_done hnd.out hkl Hkz.out H2.out ((hs4.setK (k := kk) hg10 true).setF (k := kk) (j := 1) (by omega) hg9 (max (fL F p i L kk 1) (p i))) (by rw [Hnext.out, if_pos H0.out, if_pos hp0, Hkv.out, ← Hsn.out]; simp; omega)⟩
                case measure => simp [intOf]; omega
              · have dp : decide (p i > 0) = false := by simpa using hp0
                go_wp2_with fail
                go_roundw
                case rel => exact ⟨i + 1, some ⟨g9, 0, none⟩, some ⟨g10, 0, none⟩, c9', c10', by omega, by go_num, by rw [HL.out], by rw [HL.out], by rw [HL.out]; exact seen_done hnd.out hkl Hkz.out H2.out (by have := hs4.setK (k := kk) hg10 true; rw [← updI_self (fL F p i L) kk 1] at this; exact this) (by rw [Hnext.out, if_pos H0.out, if_neg (Int.not_lt.2 hp0), Hkv.out, ← Hsn.out]; simp)⟩
                case measure => simp [intOf]; omega
            · have d0 : (F i 1 == 0) = false := by simpa using h0
              have d1 : (F i 1 == 1) = true := by have := H2.out; simp; omega
              have H0 := hide h0
              clear h0
              by_cases hp0 : 0 < p i
              · have dp : decide (p i > 0) = true := by simpa using hp0
                go_wp2_with fail
                go_roundw
                case rel => exact ⟨i + 1, some ⟨g9, 0, none⟩, some ⟨g10, 0, none⟩, c9', c10', by omega, by go_num, by rw [HL.out], by rw [HL.out], by rw [HL.out]; exact seen_done hnd.out hkl Hkz.out H2.out ((hs4.setK (k := kk) hg10 true).setF (k := kk) (j := 1) (by omega) hg9 (min (fL F p i L kk 1) (1000 - p i))) (by rw [Hnext.out, if_neg H0.out, if_pos hp0, ← Hsn.out]; omega)⟩
                case measure => simp [intOf]; omega
              · have dp : decide (p i > 0) = false := by simpa using hp0
                go_wp2_with fail
                go_roundw
                case rel => exact ⟨i + 1, some ⟨g9, 0, none⟩, some ⟨g10, 0, none⟩, c9', c10', by omega, by go_num, by rw [HL.out], by rw [HL.out], by rw [HL.out]; exact seen_done hnd.out hkl Hkz.out H2.out (by have := hs4.setK (k := kk) hg10 true; rw [← updI_self (fL F p i L) kk 1] at this; exact this) (by rw [Hnext.out, if_neg H0.out, if_neg (Int.not_lt.2 hp0), ← Hsn.out])⟩
                case measure => simp [intOf]; omega
    · obtain rfl : i = n := by omega
      have hit : ∀ z ∈ D F i, 1 ≤ z ∧ z ≤ 4 := fun z hz => by
        obtain ⟨j, hj, rfl⟩ := (D_mem i).1 hz
        exact Hv.out.item j hj
      have hdl := D_len F i
      have hso := hide (sort_st F p i w2.heap.size c9 A9 (D F i) wr hit (by omega) hs.bel.size hs.own)
      have hbel := hs.bel
      clear hs hit
      go_wp2_with fail
      refine hso.out.mono ?_
      rintro e w5 ⟨rfl, hown5, hb5⟩
      clear hso
      go_wp2_with fail
      go_ret2
      refine ⟨A9, c9, ?_, ?_, ?_⟩
      · rw [sD_len]
        rfl
      · rw [sD_len, Hpp.out]
        exact ownsRow_less hown5 hbl2.size
      · exact hbl2.trans ((hbel.trans hb5).mono hbl2.size)
end Go.Proofs.Ytlipdhoeklgdoaa.Tl
