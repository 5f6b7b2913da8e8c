/- The contract of (*para).explicit: levels that follow from embeddings, overrides and isolates. -/
import Derived.Test.YtdikfldogmbeaaaDoorBdStack
import Derived.Deep.CutBlock
namespace Go.Proofs.YtdikfldogmbeaaaDoor.Bd
open Go.RowKit Go.Frm

set_option maxRecDepth 100000 in
set_option maxHeartbeats 8000000 in
theorem explicit_ok (G : Nat) (At : Option Addr) (ct n gc gl : Nat) (base : Int) (go : Nat) (mt : Value) (C : Nat → Int) (w : World) (hp : Blk w G 44 (paC At ct n gc gl base go mt)) (hc : BI w gc n C) (hl : BI w gl n (fun _ => 0)) (ho : BB w go n (fun _ => false))
    (hne : gc ≠ gl) (hn : n ≤ 100000) (hb : 0 ≤ base ∧ base ≤ 1) :
    Calls Tryd.prog 20 #[.pointer (some ⟨G, 0, none⟩)] w fun e w' => e = .returned (.tuple #[]) ∧ Blk w' G 44 (paC At ct n gc gl base go mt) ∧
      BI w' gc n (ex C n base n).C ∧ BI w' gl n (ex C n base n).L ∧ BB w' go n (ex C n base n).O ∧ Chg (Is3 gc gl go) w w' := by
  have c1 : w.cell? ⟨G, 1, none⟩ = some (.slice (some ⟨gc, 0, none⟩) n n) := hp.cell 1
  have c3 : w.cell? ⟨G, 3, none⟩ = some (.int .i64 base) := hp.cell 3
  have hG := hp.lt
  have hes : ES w (w.alloc (.cells #[.int .i64 base, .int .i64 (-1), .bool false] 60)) G At ct n gc gl base go mt (ex C n base 0) (.slice (some ⟨w.heap.size, 0, none⟩) 1 1) :=
    ⟨hp.alloc _, hc.blk.alloc _, hl.blk.alloc _, ho.blk.alloc _, World.ownsRow_lit (base := w.heap.size) (size := 3) w #[.int .i64 base, .int .i64 (-1), .bool false] 1 (Nat.le_refl _) (by decide) rfl, (Chg.refl _ w).alloc _, ⟨hc.lt, hl.lt, ho.lt, hp.lt⟩, hne⟩
  have Hok := hide (ex_ok C n hb)
  have Hb := hide hb
  have Hes := hide hes
  clear hes hb
  go_enter Tryd.func20, Tryd.ntmps20
  go_upto_region 2 with fail
  generalize w.alloc (.cells #[.int .i64 base, .int .i64 (-1), .bool false] 60) = w1 at *
  have k1 := Hes.out.c1
  go_wp2_with fail
  go_loopw [2, 3, 4, 5, 24] (fun v a b c i wr => ∃ k : Nat, k ≤ n ∧ i = .int .i64 k ∧ a = .int .i64 ((ex C n base k).oi : Nat) ∧ b = .int .i64 ((ex C n base k).oe : Nat) ∧ c = .int .i64 ((ex C n base k).va : Nat) ∧ ES w wr G At ct n gc gl base go mt (ex C n base k) v) (fun _ _ _ _ i _ => n - (intOf i).toNat)
  case atStart => exact ⟨0, by omega, rfl, rfl, rfl, rfl, Hes.out⟩
  case round =>
    clear Hes k1 c1 c3 hG hp hc hl ho
    obtain ⟨k, hk, rfl, rfl, rfl, rfl, hes⟩ := hrel
    by_cases hlt : k < n
    · have Hst := hide (show ex C n base (k + 1) = exStep n base k (ex C n base k) from rfl)
      have Ho := hide (Hok.out k)
      generalize ex C n base k = e at *
      clear Hok
      obtain ⟨As, cs, rfl⟩ := own_form hes.st
      have m1 := Ho.out.m1
      have mk : e.m ≤ k + 1 := Ho.out.mi
      have lv := Ho.out.lv (e.m - 1) (by omega)
      have b0 := Hb.out
      obtain ⟨gs, rfl, hgs⟩ := own_at hes.st (by omega)
      obtain ⟨t0, t1, t2⟩ := hes.ent rfl (j := e.m - 1) (by omega)
      have r1 := hes.c1
      have rc := hes.cl.cell hlt
      obtain ⟨eoi, Hoi⟩ : ∃ x, Hid (x = e.oi) := ⟨_, rfl⟩
      obtain ⟨eoe, Hoe⟩ : ∃ x, Hid (x = e.oe) := ⟨_, rfl⟩
      obtain ⟨eva, Hva⟩ : ∃ x, Hid (x = e.va) := ⟨_, rfl⟩
      obtain ⟨m, Hm⟩ : ∃ x, Hid (x = e.m) := ⟨_, rfl⟩
      obtain ⟨tl, Htl⟩ : ∃ x, Hid (x = e.sl (e.m - 1)) := ⟨_, rfl⟩
      obtain ⟨tz, Htz⟩ : ∃ x, Hid (x = e.so (e.m - 1)) := ⟨_, rfl⟩
      obtain ⟨ti, Hti⟩ : ∃ x, Hid (x = e.si (e.m - 1)) := ⟨_, rfl⟩
      obtain ⟨ck, Hck⟩ : ∃ x, Hid (x = e.C k) := ⟨_, rfl⟩
      rw [← Htl.out] at t0 lv
      rw [← Htz.out] at t1
      rw [← Hti.out] at t2
      rw [← Hm.out] at t0 t1 t2 m1 mk hes
      rw [← Hck.out] at rc
      rw [← Hoi.out, ← Hoe.out, ← Hva.out, ← Hm.out]
      have o1 : eoi ≤ k := by rw [Hoi.out]; exact Ho.out.oi
      have o2 : eoe ≤ k := by rw [Hoe.out]; exact Ho.out.oe
      have o3 : eva ≤ k := by rw [Hva.out]; exact Ho.out.vi
      go_upto_region 6 with fail
      have hs2 := hes.alloc (.cells #[.int .i64 tl, .int .i64 tz, .bool ti] 60)
      have ht2 := Blk.new wr 60 #[.int .i64 tl, .int .i64 tz, .bool ti]
      have h8a := hes.chg.size
      have h8b : gs < wr.heap.size := (hes.st.lt gs rfl).2
      have Hes := hide hes
      clear hes t0 t1 t2 r1 rc
      generalize wr.alloc (.cells #[.int .i64 tl, .int .i64 tz, .bool ti] 60) = w2 at *
      generalize wr.heap.size = g8 at *
      have r1 := hs2.c1
      have rc := hs2.cl.cell hlt
      rw [← Hck.out] at rc
      have hG2 := hs2.pa.lt
      have hg82 := ht2.lt
      obtain ⟨od, Hod⟩ : ∃ x, Hid (x = exOdd e.C n k) := ⟨_, rfl⟩
      obtain ⟨xb, Hxb⟩ : ∃ x : Bool, Hid (x = (ck == 15 || ck == 17 || ck == 20 || (ck == 21 && firstR e.C true (n - (k + 1)) (k + 1) 0 == 1))) := ⟨_, rfl⟩
      have Hox : Hid (od = if xb = true then 1 else 0) := hide (by rw [Hod.out, Hxb.out, exOdd, Hck.out])
      go_upto_region 7 with fail
      go_cut [58] (fun v wc => v = .bool xb ∧ w2 = wc)
      case first => as_aux_lemma =>
        have hf := first_all (some ⟨gc, 0, none⟩) n e.C (k + 1) true w2 hs2.cl.rd (by omega) hn
        rw [show ((k + 1 : Nat) : Int) = (k : Int) + 1 from rfl] at hf
        have Hf := hide hf
        clear hf
        cases h15 : (ck == 15) with
        | true =>
          have hx : Hid (xb = true) := hide (by rw [Hxb.out, h15]; rfl)
          clear Hxb Hox
          go_wp2_with fail
          go_meet
          exact ⟨by rw [hx.out], rfl⟩
        | false =>
          cases h17 : (ck == 17) with
          | true =>
            have hx : Hid (xb = true) := hide (by rw [Hxb.out, h15, h17]; rfl)
            clear Hxb Hox
            go_wp2_with fail
            go_meet
            exact ⟨by rw [hx.out], rfl⟩
          | false =>
            cases h20 : (ck == 20) with
            | true =>
              have hx : Hid (xb = true) := hide (by rw [Hxb.out, h15, h17, h20]; rfl)
              clear Hxb Hox
              go_wp2_with fail
              go_meet
              exact ⟨by rw [hx.out], rfl⟩
            | false =>
              cases h21 : (ck == 21) with
              | true =>
                have hx : Hid (xb = (firstR e.C true (n - (k + 1)) (k + 1) 0 == 1)) := hide (by rw [Hxb.out, h15, h17, h20, h21]; rfl)
                clear Hxb Hox
                go_wp2_with fail
                refine Hf.out.mono ?_
                rintro e9 w9 ⟨rfl, rfl⟩
                go_wp2_with fail
                go_meet
                exact ⟨by rw [hx.out], rfl⟩
              | false =>
                have hx : Hid (xb = false) := hide (by rw [Hxb.out, h15, h17, h20, h21]; rfl)
                clear Hxb Hox
                go_wp2_with fail
                go_meet
                exact ⟨by rw [hx.out], rfl⟩
      case rest =>
        obtain ⟨rfl, rfl⟩ := hcut
        clear Hxb
        go_upto_if 58 with fail
        go_cut [9] (fun v wc => v = .int .i64 od ∧ w2 = wc)
        case first => as_aux_lemma =>
          cases xb with
          | true =>
            have hx : Hid (od = 1) := hide Hox.out
            clear Hox
            go_wp2_with fail
            go_meet
            exact ⟨by rw [hx.out], rfl⟩
          | false =>
            have hx : Hid (od = 0) := hide Hox.out
            clear Hox
            go_wp2_with fail
            go_meet
            exact ⟨by rw [hx.out], rfl⟩
        case rest =>
          obtain ⟨rfl, rfl⟩ := hcut
          have od01 : od = 0 ∨ od = 1 := by
            rw [Hox.out]
            split
            · exact .inr rfl
            · exact .inl rfl
          have Hup := hide (up_ok tl od (by omega) (by omega) od01 w2)
          have Hnb := hide (upL_bd tl od)
          obtain ⟨nx, Hnx⟩ : ∃ x, Hid (x = upL tl od) := ⟨_, rfl⟩
          rw [← Hnx.out] at Hup Hnb
          clear Hox
          obtain ⟨fits, Hfits⟩ : ∃ x : Bool, Hid (x = (decide (nx ≤ 125) && eoi == 0 && eoe == 0)) := ⟨_, rfl⟩
          have s0 : w2.cell? ⟨g8, 0, none⟩ = some (.int .i64 tl) := ht2.cell 0
          go_upto_region 10 with (go_at_call 33; refine Hup.out.mono ?_; rintro e9 w9 ⟨rfl, rfl⟩)
          go_cut [11] (fun v wc => v = .bool fits ∧ w2 = wc)
          case first => as_aux_lemma =>
            have hcoi : ((eoi : Int) == 0) = (eoi == 0) := by rw [Bool.eq_iff_iff, beq_iff_eq, beq_iff_eq]; omega
            have hcoe : ((eoe : Int) == 0) = (eoe == 0) := by rw [Bool.eq_iff_iff, beq_iff_eq, beq_iff_eq]; omega
            cases h1 : decide (nx ≤ 125) with
            | false =>
              have hx : Hid (fits = false) := hide (by rw [Hfits.out, h1]; rfl)
              clear Hfits hcoi hcoe
              go_wp2_with fail
              go_meet
              exact ⟨by rw [hx.out], rfl⟩
            | true =>
              cases h2 : (eoi == 0) with
              | false =>
                have hx : Hid (fits = false) := hide (by rw [Hfits.out, h1, h2]; rfl)
                rw [h2] at hcoi
                clear Hfits hcoe
                go_wp2_with fail
                go_meet
                exact ⟨by rw [hx.out], rfl⟩
              | true =>
                have hx : Hid (fits = (eoe == 0)) := hide (by rw [Hfits.out, h1, h2]; rfl)
                rw [h2] at hcoi
                have Hcoe := hide hcoe
                clear Hfits hcoe
                go_wp2_with fail
                go_meet
                exact ⟨by rw [hx.out, ← Hcoe.out], rfl⟩
          case rest =>
            obtain ⟨rfl, rfl⟩ := hcut
            have r2 := hs2.c2
            have rl := hs2.lv.cell hlt
            have fl := hs2.lv.frozen k
            go_upto_region 11 with fail
            go_region
            have hgl8 : g8 ≠ gl := by have := hs2.low.2.1; omega
            have hs3 : ES w ((w2.setCell ⟨gl, k, none⟩ (.int .i64 tl)).drew) G At ct n gc gl base go mt { e with L := upd e.L k tl } (.slice (some ⟨gs, 0, none⟩) m cs) := (hs2.setL k tl).drewN 1
            have ht3 : Blk ((w2.setCell ⟨gl, k, none⟩ (.int .i64 tl)).drew) g8 60 #[.int .i64 tl, .int .i64 tz, .bool ti] := (ht2.far (p := ⟨gl, k, none⟩) hgl8 (.int .i64 tl)).drewN 1
            have Hs2 := hide hs2
            have Ht2 := hide ht2
            clear hs2 ht2 r1 rc hG2 hg82 s0 r2 rl fl
            generalize (w2.setCell ⟨gl, k, none⟩ (.int .i64 tl)).drew = w3 at *
            have hG3 := hs3.pa.lt
            have hg83 := ht3.lt
            have r2 := hs3.c2
            have r4 := hs3.c4
            have ro := hs3.ou.cell hlt
            have fo := hs3.ou.frozen k
            have s0 : w3.cell? ⟨g8, 0, none⟩ = some (.int .i64 tl) := ht3.cell 0
            have s1 : w3.cell? ⟨g8, 1, none⟩ = some (.int .i64 tz) := ht3.cell 1
            have s2 : w3.cell? ⟨g8, 2, none⟩ = some (.bool ti) := ht3.cell 2
            have HF : Hid (fitsB n k e = fits) := hide (by rw [Hfits.out, fitsB, Hoi.out, Hoe.out, Hnx.out, Htl.out, Hod.out])
            have HFn : Hid (fits = true → nx ≤ 125) := hide (fun h => by
              have := Hfits.out
              rw [h] at this
              have h2 := this.symm
              simp only [Bool.and_eq_true, decide_eq_true_eq] at h2
              exact h2.1.1)
            have hst3 : w3.ownsRow w.heap.size 60 3 (.slice (some ⟨gs, 0, none⟩) m cs) m (rowF m 3 (stV e.sl e.so e.si)) := by
              have h := hs3.st
              rw [Hm.out] at h ⊢
              exact h
            have Hst3 := hide hst3
            have Hcap := hide (own_cap hst3)
            clear hst3
            obtain ⟨be, Hbe⟩ : ∃ x : Bool, Hid (x = embB ck) := ⟨_, rfl⟩
            clear Hfits
            go_upto_region 13 with fail
            go_cut [85] (fun v wc => v = .bool be ∧ w3 = wc)
            case first => as_aux_lemma =>
              have Hb2 : Hid (be = (ck == 15 || ck == 14 || ck == 17 || ck == 16)) := hide Hbe.out
              clear Hbe
              cases h15 : (ck == 15) with
              | true =>
                have hx : Hid (be = true) := hide (by rw [Hb2.out, h15]; rfl)
                clear Hb2
                go_wp2_with fail
                go_meet
                exact ⟨by rw [hx.out], rfl⟩
              | false =>
                cases h14 : (ck == 14) with
                | true =>
                  have hx : Hid (be = true) := hide (by rw [Hb2.out, h15, h14]; rfl)
                  clear Hb2
                  go_wp2_with fail
                  go_meet
                  exact ⟨by rw [hx.out], rfl⟩
                | false =>
                  cases h17 : (ck == 17) with
                  | true =>
                    have hx : Hid (be = true) := hide (by rw [Hb2.out, h15, h14, h17]; rfl)
                    clear Hb2
                    go_wp2_with fail
                    go_meet
                    exact ⟨by rw [hx.out], rfl⟩
                  | false =>
                    have hx : Hid (be = (ck == 16)) := hide (by rw [Hb2.out, h15, h14, h17]; rfl)
                    clear Hb2
                    go_wp2_with fail
                    go_meet
                    exact ⟨by rw [hx.out], rfl⟩
            case rest =>
              obtain ⟨rfl, rfl⟩ := hcut
              have HEm : Hid (embB (e.C k) = be) := hide (by rw [Hbe.out, Hck.out])
              clear Hbe
              cases be with
              | true =>
                go_upto_region 16 with fail
                have hgo8 : g8 ≠ go := by have := hs3.low.2.2.1; omega
                have hs4 : ES w ((w3.setCell ⟨go, k, none⟩ (.bool true)).alloc (.cells #[.int .i64 nx, .int .i64 (-1), .bool false] 60)) G At ct n gc gl base go mt { e with L := upd e.L k tl, O := upd e.O k true } (.slice (some ⟨gs, 0, none⟩) m cs) := (hs3.setO k true).alloc _
                have hq4 : Blk ((w3.setCell ⟨go, k, none⟩ (.bool true)).alloc (.cells #[.int .i64 nx, .int .i64 (-1), .bool false] 60)) w3.heap.size 60 #[.int .i64 nx, .int .i64 (-1), .bool false] := by
                  have h := Blk.new (w3.setCell ⟨go, k, none⟩ (.bool true)) 60 #[.int .i64 nx, .int .i64 (-1), .bool false]
                  rwa [show (w3.setCell ⟨go, k, none⟩ (.bool true)).heap.size = w3.heap.size by simp [World.setCell]] at h
                have h12 : w.heap.size ≤ w3.heap.size := hs3.chg.size
                have h12b : gs < w3.heap.size := (hs3.st.lt gs rfl).2
                have Hs3 := hide hs3
                have Ht3 := hide ht3
                clear hs3 ht3 hG3 hg83 r2 r4 ro fo s0 s1 s2
                generalize (w3.setCell ⟨go, k, none⟩ (.bool true)).alloc (.cells #[.int .i64 nx, .int .i64 (-1), .bool false] 60) = w4 at *
                generalize w3.heap.size = g12 at *
                have f1 := hq4.frozen 1
                have q1 : w4.cell? ⟨g12, 1, none⟩ = some (.int .i64 (-1)) := hq4.cell 1
                go_upto_if 109 with fail
                go_cut [] (fun wc => ES w wc G At ct n gc gl base go mt { e with L := upd e.L k tl, O := upd e.O k true } (.slice (some ⟨gs, 0, none⟩) m cs) ∧ Blk wc g12 60 #[.int .i64 nx, .int .i64 (if ck == 17 then 1 else -1), .bool false])
                case first => as_aux_lemma =>
                  cases h17 : (ck == 17) with
                  | true =>
                    have hs5 := hs4.far (p := ⟨g12, 1, none⟩) h12 (by show some g12 ≠ some gs; intro h; injection h; omega) (.int .i64 1)
                    have hq5 := hq4.set_ 1 (.int .i64 1)
                    have Hs5 := hide hs5
                    have Hq5 := hide hq5
                    clear hs5 hq5
                    go_wp2_with fail
                    go_meet
                    exact ⟨Hs5.out, by rw [h17]; exact Hq5.out⟩
                  | false =>
                    go_wp2_with fail
                    go_meet
                    exact ⟨hs4, by rw [h17]; exact hq4⟩
                case rest =>
                  obtain ⟨hs5, hq5⟩ := hcut
                  clear hs4 hq4 f1 q1
                  have f1 := hq5.frozen 1
                  have q1 : wc.cell? ⟨g12, 1, none⟩ = some (.int .i64 (if ck == 17 then 1 else -1)) := hq5.cell 1
                  go_upto_if 112 with fail
                  go_cut [] (fun wd => ES w wd G At ct n gc gl base go mt { e with L := upd e.L k tl, O := upd e.O k true } (.slice (some ⟨gs, 0, none⟩) m cs) ∧ Blk wd g12 60 #[.int .i64 nx, .int .i64 (ovClass ck), .bool false])
                  case first => as_aux_lemma =>
                    cases h16 : (ck == 16) with
                    | true =>
                      have hov : ovClass ck = 0 := by unfold ovClass; rw [h16]; rfl
                      have hs6 := hs5.far (p := ⟨g12, 1, none⟩) h12 (by show some g12 ≠ some gs; intro h; injection h; omega) (.int .i64 0)
                      have hq6 := hq5.set_ 1 (.int .i64 0)
                      have Hs6 := hide hs6
                      have Hq6 := hide hq6
                      have Hov := hide hov
                      clear hs6 hq6 hov
                      go_wp2_with fail
                      go_meet
                      exact ⟨Hs6.out, by rw [Hov.out]; exact Hq6.out⟩
                    | false =>
                      have hov : Hid (ovClass ck = if ck == 17 then 1 else -1) := hide (by unfold ovClass; rw [h16]; rfl)
                      have Hs5 := hide hs5
                      have Hq5 := hide hq5
                      clear hs5 hq5
                      go_wp2_with fail
                      go_meet
                      exact ⟨Hs5.out, by rw [hov.out]; exact Hq5.out⟩
                  case rest =>
                    obtain ⟨hs6, hq6⟩ := hcut
                    clear hs5 hq5 f1 q1
                    have ht0 : wc.cell? ⟨g12, 0, none⟩ = some (.int .i64 nx) := hq6.cell 0
                    have ht1 : wc.cell? ⟨g12, 1, none⟩ = some (.int .i64 (ovClass ck)) := hq6.cell 1
                    have ht2 : wc.cell? ⟨g12, 2, none⟩ = some (.bool false) := hq6.cell 2
                    have hst6 := hs6.row Hm.out
                    have hcap6 := own_cap hst6
                    obtain ⟨oc, Hoc⟩ : ∃ x, Hid (x = ovClass ck) := ⟨_, rfl⟩
                    rw [← Hoc.out] at ht1
                    have Hs6 := hide hs6
                    clear hs6 hq6
                    cases fits with
                    | true => as_aux_lemma =>
                      have hst : Hid (ex C n base (k + 1) = { e with L := upd e.L k (e.sl (e.m - 1)), O := upd e.O k true, sl := upd e.sl e.m (upL (e.sl (e.m - 1)) (exOdd e.C n k)), so := upd e.so e.m (ovClass (e.C k)), si := upd e.si e.m false, m := e.m + 1 }) := hide (Hst.out.trans (exs_push HEm.out HF.out))
                      go_wp2_with (at_builtin; refine wpL_append (size := 3) rfl rfl Tryd.underlying61 st_info rfl (by decide) rfl rfl (hst6.alloc _) (news_at _ _ _ _ (by simp)) rfl (by simp [Value.oneCell']) (by omega) (by omega) (by have := Hs6.out.chg.size; simp; omega) ?_; intro v7 w7 hown7 hgrow7)
                      go_roundw
                      case rel => exact ⟨k + 1, by omega, by go_num, by rw [hst.out, Hoi.out], by rw [hst.out, Hoe.out], by rw [hst.out, Hva.out], by
                        rw [hst.out]
                        exact (Hs6.out.alloc _).pushed Hm.out hgrow7 hown7 (by rw [Htl.out]) rfl rfl (by rw [Hnx.out, Htl.out, Hod.out]) (by rw [Hoc.out, Hck.out]) rfl rfl⟩
                      case measure => simp [intOf]; omega
                    | false => as_aux_lemma =>
                      have hst : Hid (ex C n base (k + 1) = { e with L := upd e.L k (e.sl (e.m - 1)), O := upd e.O k true, oe := if e.oi == 0 then e.oe + 1 else e.oe }) := hide (Hst.out.trans (exs_over HEm.out HF.out))
                      cases h0 : (eoi == 0) with
                      | true =>
                        have h0' : ((eoi : Int) == 0) = true := by rw [beq_iff_eq] at h0 ⊢; omega
                        have h0e : Hid ((e.oi == 0) = true) := hide (by rw [← Hoi.out]; exact h0)
                        clear h0
                        go_wp2_with fail
                        go_roundw
                        case rel => exact ⟨k + 1, by omega, by go_num, by rw [hst.out, Hoi.out], by
                          rw [hst.out, Hoe.out]
                          show _ = Value.int .i64 ((if (e.oi == 0) = true then e.oe + 1 else e.oe : Nat) : Int)
                          rw [if_pos h0e.out]
                          rfl, by rw [hst.out, Hva.out], by
                          rw [hst.out]
                          exact Hs6.out.to (by rw [Htl.out]) rfl rfl rfl rfl rfl rfl⟩
                        case measure => simp [intOf]; omega
                      | false =>
                        have h0' : ((eoi : Int) == 0) = false := by rw [beq_eq_false_iff_ne] at h0 ⊢; omega
                        have h0e : Hid ((e.oi == 0) = false) := hide (by rw [← Hoi.out]; exact h0)
                        clear h0
                        go_wp2_with fail
                        go_roundw
                        case rel => exact ⟨k + 1, by omega, by go_num, by rw [hst.out, Hoi.out], by
                          rw [hst.out, Hoe.out]
                          show _ = Value.int .i64 ((if (e.oi == 0) = true then e.oe + 1 else e.oe : Nat) : Int)
                          rw [if_neg (by rw [h0e.out]; decide)], by rw [hst.out, Hva.out], by
                          rw [hst.out]
                          exact Hs6.out.to (by rw [Htl.out]) rfl rfl rfl rfl rfl rfl⟩
                        case measure => simp [intOf]; omega
              | false =>
                have Hiso := hide (isolate_ok ck w3)
                cases hiso : iso ck with
                | true =>
                  rw [hiso] at Hiso
                  have HIs : Hid (iso (e.C k) = true) := hide (by rw [← Hck.out]; exact hiso)
                  have Hov := hide (override_ok G At ct n gc gl base go mt e.C k tl tz ti w3 hs3.pa hs3.cl hlt)
                  go_wp2_with (go_at_call 32; refine Hiso.out.mono ?_; rintro e9 w9 ⟨rfl, rfl⟩)
                  refine Hov.out.mono ?_
                  rintro e9 w4 ⟨rfl, hc4, hg4⟩
                  have hs4 := hs3.over hc4 hg4
                  have Hs4 := hide hs4
                  have hst4 := hs4.row Hm.out
                  have hcap4 := own_cap hst4
                  clear hs3 hs4 hc4 hg4 ht3 hG3 hg83 r2 r4 ro fo s0 s1 s2 hiso Hiso Hov
                  cases fits with
                  | true => as_aux_lemma =>
                    have hst : Hid (ex C n base (k + 1) = { e with L := upd e.L k (e.sl (e.m - 1)), C := ovr e.C k (e.so (e.m - 1)), sl := upd e.sl e.m (upL (e.sl (e.m - 1)) (exOdd e.C n k)), so := upd e.so e.m (-1), si := upd e.si e.m true, m := e.m + 1, va := e.va + 1 }) := hide (Hst.out.trans (exs_iso HEm.out HIs.out HF.out))
                    go_wp2_with (at_builtin; refine wpL_append (size := 3) rfl rfl Tryd.underlying61 st_info rfl (by decide) rfl rfl (hst4.alloc _) (news_at _ _ _ _ (by simp)) rfl (by simp [Value.oneCell']) (by omega) (by omega) (by have := Hs4.out.chg.size; simp; omega) ?_; intro v7 w7 hown7 hgrow7)
                    go_roundw
                    case rel => exact ⟨k + 1, by omega, by go_num, by rw [hst.out, Hoi.out], by rw [hst.out, Hoe.out], by rw [hst.out, Hva.out]; rfl, by
                      rw [hst.out]
                      exact (Hs4.out.alloc _).pushed Hm.out hgrow7 hown7 (by rw [Htl.out]) rfl (by rw [Htz.out]) (by rw [Hnx.out, Htl.out, Hod.out]) rfl rfl rfl⟩
                    case measure => simp [intOf]; omega
                  | false => as_aux_lemma =>
                    have hst : Hid (ex C n base (k + 1) = { e with L := upd e.L k (e.sl (e.m - 1)), C := ovr e.C k (e.so (e.m - 1)), oi := e.oi + 1 }) := hide (Hst.out.trans (exs_isoOver HEm.out HIs.out HF.out))
                    go_wp2_with fail
                    go_roundw
                    case rel => exact ⟨k + 1, by omega, by go_num, by rw [hst.out, Hoi.out]; rfl, by rw [hst.out, Hoe.out], by rw [hst.out, Hva.out], by
                      rw [hst.out]
                      exact Hs4.out.to (by rw [Htl.out]) rfl (by rw [Htz.out]) rfl rfl rfl rfl⟩
                    case measure => simp [intOf]; omega
                | false =>
                  rw [hiso] at Hiso
                  have HIs : Hid (iso (e.C k) = false) := hide (by rw [← Hck.out]; exact hiso)
                  have Hov := hide (override_ok G At ct n gc gl base go mt e.C k tl tz ti w3 hs3.pa hs3.cl hlt)
                  cases h22 : (ck == 22) with
                  | true =>
                    have HI2 : Hid ((e.C k == 22) = true) := hide (by rw [← Hck.out]; exact h22)
                    go_upto_block 3 with (go_at_call 32; refine Hiso.out.mono ?_; rintro e9 w9 ⟨rfl, rfl⟩)
                    go_cut [2, 3, 4, 5] (fun v a b c wc => ∃ mm x y z : Nat, 1 ≤ mm ∧ mm ≤ m ∧ v = .slice (some ⟨gs, 0, none⟩) mm cs ∧ a = .int .i64 x ∧ b = .int .i64 y ∧ c = .int .i64 z ∧ w3 = wc ∧
                      Hid (ex C n base (k + 1) = { L := upd (upd e.L k (e.sl (e.m - 1))) k (e.sl (mm - 1)), O := e.O, C := ovr e.C k (e.so (mm - 1)), sl := e.sl, so := e.so, si := e.si, m := mm, oi := x, oe := y, va := z }))
                    case first => as_aux_lemma =>
                      clear s0 s1 s2 r2 r4 ro fo Hov
                      by_cases hoi : 0 < eoi
                      · have hst : Hid (ex C n base (k + 1) = { L := upd (upd e.L k (e.sl (e.m - 1))) k (e.sl (m - 1)), O := e.O, C := ovr e.C k (e.so (m - 1)), sl := e.sl, so := e.so, si := e.si, m := m, oi := eoi - 1, oe := eoe, va := eva }) := hide (by
                          rw [Hst.out, exs_pdi1 HEm.out HIs.out HI2.out (by rw [← Hoi.out]; exact hoi), Hm.out, Hoi.out, Hoe.out, Hva.out])
                        have d1 : decide (0 < ((eoi : Nat) : Int)) = true := by simp; omega
                        go_wp2_with fail
                        go_meet
                        exact ⟨m, eoi - 1, eoe, eva, m1, Nat.le_refl _, rfl, by go_num, rfl, rfl, rfl, hst⟩
                      · have hoi0 : eoi = 0 := by omega
                        have d1 : decide (0 < ((eoi : Nat) : Int)) = false := by simp; omega
                        have Hoi0 := hide (Hoi.out.symm.trans hoi0)
                        by_cases hva : 0 < eva
                        · have d2 : decide (0 < ((eva : Nat) : Int)) = true := by simp; omega
                          have Hc := hide (show 0 < cnt e.si m by rw [Hm.out, ← Ho.out.va, ← Hva.out]; exact hva)
                          have hst : Hid (ex C n base (k + 1) = { L := upd (upd e.L k (e.sl (e.m - 1))) k (e.sl (popI e.si m - 1)), O := e.O, C := ovr e.C k (e.so (popI e.si m - 1)), sl := e.sl, so := e.so, si := e.si, m := popI e.si m, oi := eoi, oe := 0, va := eva - 1 }) := hide (by
                            rw [Hst.out, exs_pdi2 HEm.out HIs.out HI2.out Hoi0.out (by rw [← Hva.out]; exact hva), Hm.out, Hoi.out, Hva.out])
                          have Hs3 := hide hs3
                          have Ht3 := hide ht3
                          have Hs0 := hide Ho.out.s0
                          clear hs3 ht3 hoi0
                          go_upto_block 4 with fail
                          go_cut [2] (fun v wc => v = .slice (some ⟨gs, 0, none⟩) (popI e.si m + 1) cs ∧ w3 = wc)
                          case first => as_aux_lemma =>
                            go_wp2_with fail
                            go_loopw [2] (fun v wr => ∃ q : Nat, q ≤ m ∧ v = .slice (some ⟨gs, 0, none⟩) q cs ∧ w3 = wr ∧ Hid (popI e.si q = popI e.si m) ∧ Hid (0 < cnt e.si q)) (fun v _ => slLen v)
                            case atStart => exact ⟨m, Nat.le_refl _, rfl, rfl, hide rfl, Hc⟩
                            case round =>
                              obtain ⟨q, hq, rfl, rfl, Hp, Hq⟩ := hrel
                              cases q with
                              | zero => exact absurd Hq.out (by simp [cnt])
                              | succ q =>
                                obtain ⟨_, _, t2⟩ := Hs3.out.ent Hm.out.symm (j := q) (by omega)
                                have i1 : ((q + 1 : Nat) : Int) - 1 = (q : Int) := by omega
                                have hcap := Hcap.out.1
                                cases hsi : e.si q with
                                | true =>
                                  have hp2 := hide (popI_top hsi)
                                  have t3 : w3.cell? ⟨gs, q * 3 + 2, none⟩ = some (.bool true) := by rw [← hsi]; exact t2
                                  clear t2 hsi
                                  go_wp2_with fail
                                  go_meet
                                  exact ⟨by rw [← Hp.out, hp2.out], rfl⟩
                                | false =>
                                  have hp2 := hide (popI_next hsi)
                                  have hc2 := hide (show cnt e.si (q + 1) = cnt e.si q by rw [cnt, hsi]; rfl)
                                  have t3 : w3.cell? ⟨gs, q * 3 + 2, none⟩ = some (.bool false) := by rw [← hsi]; exact t2
                                  have hcs : ¬ cs = 0 := by omega
                                  clear t2 hsi
                                  go_wp2_with fail
                                  go_roundw
                                  case rel => exact ⟨q, by omega, rfl, trivial, hide (hp2.out.symm.trans Hp.out), hide (by rw [← hc2.out]; exact Hq.out)⟩
                                  case measure => simp [slLen]
                          case rest =>
                            obtain ⟨rfl, rfl⟩ := hcut
                            have hpp := popI_ok e.si m Hc.out
                            have hpos := popI_pos Hs0.out Hc.out
                            have hple := hpp.1
                            have hcap := Hcap.out.1
                            have hcs : ¬ cs = 0 := by omega
                            have i1 : ((popI e.si m + 1 : Nat) : Int) - 1 = ((popI e.si m : Nat) : Int) := by omega
                            clear hpp
                            generalize popI e.si m = pm at *
                            go_wp2_with fail
                            go_meet
                            exact ⟨pm, eoi, 0, eva - 1, hpos, by omega, rfl, rfl, rfl, by go_num, rfl, hst⟩
                        · have hva0 : eva = 0 := by omega
                          have d2 : decide (0 < ((eva : Nat) : Int)) = false := by simp; omega
                          have hst : Hid (ex C n base (k + 1) = { L := upd (upd e.L k (e.sl (e.m - 1))) k (e.sl (m - 1)), O := e.O, C := ovr e.C k (e.so (m - 1)), sl := e.sl, so := e.so, si := e.si, m := m, oi := eoi, oe := eoe, va := eva }) := hide (by
                            rw [Hst.out, exs_pdi3 HEm.out HIs.out HI2.out Hoi0.out (Hva.out.symm.trans hva0), Hm.out, Hoi.out, Hoe.out, Hva.out])
                          have Hx := hide hva0
                          have Hy := hide hoi0
                          clear hva0 hoi0
                          go_wp2_with fail
                          go_meet
                          exact ⟨m, eoi, eoe, eva, m1, Nat.le_refl _, rfl, rfl, rfl, rfl, rfl, hst⟩
                    case rest =>
                      obtain ⟨mm, x, y, z, h1m, hmm, rfl, rfl, rfl, rfl, rfl, hst⟩ := hcut
                      obtain ⟨u0, u1, u2⟩ := hs3.ent Hm.out.symm (j := mm - 1) (by omega)
                      have i1 : ((mm : Nat) : Int) - 1 = ((mm - 1 : Nat) : Int) := by omega
                      have p0 : w3.frozen? ⟨g8, 0, none⟩ = false := ht3.frozen 0
                      have p1 : w3.frozen? ⟨g8, 1, none⟩ = false := ht3.frozen 1
                      have p2 : w3.frozen? ⟨g8, 2, none⟩ = false := ht3.frozen 2
                      obtain ⟨xa, Hxa⟩ : ∃ x, Hid (x = e.sl (mm - 1)) := ⟨_, rfl⟩
                      obtain ⟨xo, Hxo⟩ : ∃ x, Hid (x = e.so (mm - 1)) := ⟨_, rfl⟩
                      obtain ⟨xi, Hxi⟩ : ∃ x, Hid (x = e.si (mm - 1)) := ⟨_, rfl⟩
                      rw [← Hxa.out] at u0
                      rw [← Hxo.out] at u1
                      rw [← Hxi.out] at u2
                      go_upto_region 40 with fail
                      have hg8s : some g8 ≠ (Value.slice (some ⟨gs, 0, none⟩) mm cs).ownBlock := by
                        show some g8 ≠ some gs
                        intro h
                        injection h with h
                        omega
                      have hs4 := (((hs3.take Hm.out.symm (k := mm) hmm).far (p := ⟨g8, 0, none⟩) h8a hg8s (.int .i64 xa)).far (p := ⟨g8, 1, none⟩) h8a hg8s (.int .i64 xo)).far (p := ⟨g8, 2, none⟩) h8a hg8s (.bool xi)
                      have ht4 : Blk (((w3.setCell ⟨g8, 0, none⟩ (.int .i64 xa)).setCell ⟨g8, 1, none⟩ (.int .i64 xo)).setCell ⟨g8, 2, none⟩ (.bool xi)) g8 60 #[.int .i64 xa, .int .i64 xo, .bool xi] := ((ht3.set_ 0 (.int .i64 xa)).set_ 1 (.int .i64 xo)).set_ 2 (.bool xi)
                      have Hs3 := hide hs3
                      have Ht3 := hide ht3
                      clear hs3 ht3 hG3 hg83 r2 r4 ro fo s0 s1 s2 u0 u1 u2 p0 p1 p2 Hov
                      generalize ((w3.setCell ⟨g8, 0, none⟩ (.int .i64 xa)).setCell ⟨g8, 1, none⟩ (.int .i64 xo)).setCell ⟨g8, 2, none⟩ (.bool xi) = w4 at *
                      have r2 := hs4.c2
                      have rl := hs4.lv.cell hlt
                      have fl := hs4.lv.frozen k
                      have hG4 := hs4.pa.lt
                      have hg84 := ht4.lt
                      have s0 : w4.cell? ⟨g8, 0, none⟩ = some (.int .i64 xa) := ht4.cell 0
                      go_region
                      have hgl8' : g8 ≠ gl := by have := hs4.low.2.1; omega
                      have hs5 : ES w ((w4.setCell ⟨gl, k, none⟩ (.int .i64 xa)).drew) G At ct n gc gl base go mt { e with L := upd (upd e.L k tl) k xa, m := mm } (.slice (some ⟨gs, 0, none⟩) mm cs) := (hs4.setL k xa).drewN 1
                      have ht5 : Blk ((w4.setCell ⟨gl, k, none⟩ (.int .i64 xa)).drew) g8 60 #[.int .i64 xa, .int .i64 xo, .bool xi] := (ht4.far (p := ⟨gl, k, none⟩) hgl8' (.int .i64 xa)).drewN 1
                      have Hs4 := hide hs4
                      clear hs4 ht4 r2 rl fl hG4 hg84 s0
                      generalize (w4.setCell ⟨gl, k, none⟩ (.int .i64 xa)).drew = w5 at *
                      have s0 : w5.cell? ⟨g8, 0, none⟩ = some (.int .i64 xa) := ht5.cell 0
                      have s1 : w5.cell? ⟨g8, 1, none⟩ = some (.int .i64 xo) := ht5.cell 1
                      have s2 : w5.cell? ⟨g8, 2, none⟩ = some (.bool xi) := ht5.cell 2
                      have Hov := hide (override_ok G At ct n gc gl base go mt e.C k xa xo xi w5 hs5.pa hs5.cl hlt)
                      go_wp2_with fail
                      refine Hov.out.mono ?_
                      rintro e9 w6 ⟨rfl, hc6, hg6⟩
                      have Hs6 := hide (hs5.over hc6 hg6)
                      clear hs5 ht5 hc6 hg6 s0 s1 s2
                      go_wp2_with fail
                      go_roundw
                      case rel => exact ⟨k + 1, by omega, by go_num, by rw [hst.out], by rw [hst.out], by rw [hst.out], by
                        rw [hst.out]
                        exact Hs6.out.to (by rw [Htl.out, Hxa.out]) rfl (by rw [Hxo.out]) rfl rfl rfl rfl⟩
                      case measure => simp [intOf]; omega
                  | false =>
                    have HI2 : Hid ((e.C k == 22) = false) := hide (by rw [← Hck.out]; exact h22)
                    cases h18 : (ck == 18) with
                    | true =>
                      have HI3 : Hid ((e.C k == 18) = true) := hide (by rw [← Hck.out]; exact h18)
                      have Hs4 := hide (hs3.setO k true)
                      have HS4 := Hs4
                      have hle := hs3.low
                      clear hs3 ht3
                      by_cases hoi : 0 < eoi
                      · have hst : Hid (ex C n base (k + 1) = { e with L := upd e.L k (e.sl (e.m - 1)), O := upd e.O k true }) := hide (by
                          rw [Hst.out, exs_pdf HEm.out HIs.out HI2.out HI3.out, if_pos (by rw [← Hoi.out]; exact hoi)])
                        have d1 : decide (0 < ((eoi : Nat) : Int)) = true := by simp; omega
                        as_aux_lemma =>
                          go_wp2_with (go_at_call 32; refine Hiso.out.mono ?_; rintro e9 w9 ⟨rfl, rfl⟩)
                          go_roundw
                          case rel => exact ⟨k + 1, by omega, by go_num, by rw [hst.out, Hoi.out], by rw [hst.out, Hoe.out], by rw [hst.out, Hva.out], by
                            rw [hst.out]
                            exact Hs4.out.to (by rw [Htl.out]) rfl rfl rfl rfl rfl rfl⟩
                          case measure => simp [intOf]; omega
                      · have d1 : decide (0 < ((eoi : Nat) : Int)) = false := by simp; omega
                        have Hoi0 := hide (show ¬ 0 < e.oi by rw [← Hoi.out]; exact hoi)
                        by_cases hoe : 0 < eoe
                        · have hst : Hid (ex C n base (k + 1) = { e with L := upd e.L k (e.sl (e.m - 1)), O := upd e.O k true, oe := e.oe - 1 }) := hide (by
                            rw [Hst.out, exs_pdf HEm.out HIs.out HI2.out HI3.out, if_neg Hoi0.out, if_pos (by rw [← Hoe.out]; exact hoe)])
                          have d2 : decide (0 < ((eoe : Nat) : Int)) = true := by simp; omega
                          have i1 : ((eoe : Nat) : Int) - 1 = ((eoe - 1 : Nat) : Int) := by omega
                          as_aux_lemma =>
                            go_wp2_with (go_at_call 32; refine Hiso.out.mono ?_; rintro e9 w9 ⟨rfl, rfl⟩)
                            go_roundw
                            case rel => exact ⟨k + 1, by omega, by go_num, by rw [hst.out, Hoi.out], by
                              rw [hst.out]
                              first
                                | rw [Hoe.out]
                                | (rw [← Hoe.out]; go_num), by rw [hst.out, Hva.out], by
                              rw [hst.out]
                              exact Hs4.out.to (by rw [Htl.out]) rfl rfl rfl rfl rfl rfl⟩
                            case measure => simp [intOf]; omega
                        · have d2 : decide (0 < ((eoe : Nat) : Int)) = false := by simp; omega
                          have Hoe0 := hide (show ¬ 0 < e.oe by rw [← Hoe.out]; exact hoe)
                          have hst0 := hide (show ex C n base (k + 1) = if (!e.si (e.m - 1) && decide (1 < e.m)) = true then { e with L := upd e.L k (e.sl (e.m - 1)), O := upd e.O k true, m := e.m - 1 } else { e with L := upd e.L k (e.sl (e.m - 1)), O := upd e.O k true } by
                            rw [Hst.out, exs_pdf HEm.out HIs.out HI2.out HI3.out, if_neg Hoi0.out, if_neg Hoe0.out])
                          have hcap := Hcap.out.1
                          have hcs : ¬ cs = 0 := by omega
                          cases hti : ti with
                          | true =>
                            have hst : Hid (ex C n base (k + 1) = { e with L := upd e.L k (e.sl (e.m - 1)), O := upd e.O k true }) := hide (by rw [hst0.out, if_neg (by rw [← Hti.out, hti]; simp)])
                            subst hti
                            as_aux_lemma =>
                              go_wp2_with (go_at_call 32; refine Hiso.out.mono ?_; rintro e9 w9 ⟨rfl, rfl⟩)
                              go_roundw
                              case rel => exact ⟨k + 1, by omega, by go_num, by rw [hst.out, Hoi.out], by rw [hst.out, Hoe.out], by rw [hst.out, Hva.out], by
                                rw [hst.out]
                                exact Hs4.out.to (by rw [Htl.out]) rfl rfl rfl rfl rfl rfl⟩
                              case measure => simp [intOf]; omega
                          | false =>
                            by_cases hm1 : 1 < m
                            · have hst : Hid (ex C n base (k + 1) = { e with L := upd e.L k (e.sl (e.m - 1)), O := upd e.O k true, m := e.m - 1 }) := hide (by rw [hst0.out, if_pos (by rw [← Hti.out, hti, ← Hm.out]; simpa using hm1)])
                              subst hti
                              have d3 : decide (1 < ((m : Nat) : Int)) = true := by simp; omega
                              have i1 : ((m : Nat) : Int) - 1 = ((m - 1 : Nat) : Int) := by omega
                              as_aux_lemma =>
                                go_wp2_with (go_at_call 32; refine Hiso.out.mono ?_; rintro e9 w9 ⟨rfl, rfl⟩)
                                go_roundw
                                case rel => exact ⟨k + 1, by omega, by go_num, by rw [hst.out, Hoi.out], by rw [hst.out, Hoe.out], by rw [hst.out, Hva.out], by
                                  rw [hst.out]
                                  exact (Hs4.out.take Hm.out.symm (k := m - 1) (by omega)).to (by rw [Htl.out]) rfl rfl rfl rfl rfl (by rw [Hm.out])⟩
                                case measure => simp [intOf]; omega
                            · have hst : Hid (ex C n base (k + 1) = { e with L := upd e.L k (e.sl (e.m - 1)), O := upd e.O k true }) := hide (by rw [hst0.out, if_neg (by rw [← Hm.out]; simp; omega)])
                              subst hti
                              have d3 : decide (1 < ((m : Nat) : Int)) = false := by simp; omega
                              have d4 : decide (1 < m) = false := by simp; omega
                              as_aux_lemma =>
                                go_wp2_with (go_at_call 32; refine Hiso.out.mono ?_; rintro e9 w9 ⟨rfl, rfl⟩)
                                go_roundw
                                case rel => exact ⟨k + 1, by omega, by go_num, by rw [hst.out, Hoi.out], by rw [hst.out, Hoe.out], by rw [hst.out, Hva.out], by
                                  rw [hst.out]
                                  exact Hs4.out.to (by rw [Htl.out]) rfl rfl rfl rfl rfl rfl⟩
                                case measure => simp [intOf]; omega
                    | false =>
                      have HI3 : Hid ((e.C k == 18) = false) := hide (by rw [← Hck.out]; exact h18)
                      cases h9 : (ck == 9) with
                      | true => as_aux_lemma =>
                        have hst : Hid (ex C n base (k + 1) = { e with L := upd e.L k (e.sl (e.m - 1)), O := upd e.O k true }) := hide (Hst.out.trans (exs_bn HEm.out HIs.out HI2.out HI3.out (by rw [← Hck.out]; exact h9)))
                        have Hs4 := hide (hs3.setO k true)
                        clear hs3 ht3
                        go_wp2_with (go_at_call 32; refine Hiso.out.mono ?_; rintro e9 w9 ⟨rfl, rfl⟩)
                        go_roundw
                        case rel => exact ⟨k + 1, by omega, by go_num, by rw [hst.out, Hoi.out], by rw [hst.out, Hoe.out], by rw [hst.out, Hva.out], by
                          rw [hst.out]
                          exact Hs4.out.to (by rw [Htl.out]) rfl rfl rfl rfl rfl rfl⟩
                        case measure => simp [intOf]; omega
                      | false =>
                        have HI4 : Hid ((e.C k == 9) = false) := hide (by rw [← Hck.out]; exact h9)
                        cases h10 : (ck == 10) with
                        | true => as_aux_lemma =>
                          have hst : Hid (ex C n base (k + 1) = { e with L := upd (upd e.L k (e.sl (e.m - 1))) k base }) := hide (Hst.out.trans (exs_b HEm.out HIs.out HI2.out HI3.out HI4.out (by rw [← Hck.out]; exact h10)))
                          have Hs4 := hide (hs3.setL k base)
                          have r3 := hs3.c3
                          have rl := hs3.lv.cell hlt
                          have fl := hs3.lv.frozen k
                          clear hs3 ht3
                          go_wp2_with (go_at_call 32; refine Hiso.out.mono ?_; rintro e9 w9 ⟨rfl, rfl⟩)
                          go_region
                          go_wp2_with fail
                          go_roundw
                          case rel => exact ⟨k + 1, by omega, by go_num, by rw [hst.out, Hoi.out], by rw [hst.out, Hoe.out], by rw [hst.out, Hva.out], by
                            rw [hst.out]
                            exact ES.drewN (e := { e with L := upd (upd e.L k (e.sl (e.m - 1))) k base }) (Hs4.out.to (by rw [Htl.out]) rfl rfl rfl rfl rfl rfl) 1⟩
                          case measure => simp [intOf]; omega
                        | false => as_aux_lemma =>
                          have hst : Hid (ex C n base (k + 1) = { e with L := upd e.L k (e.sl (e.m - 1)), C := ovr e.C k (e.so (e.m - 1)) }) := hide (Hst.out.trans (exs_else HEm.out HIs.out HI2.out HI3.out HI4.out (by rw [← Hck.out]; exact h10)))
                          go_wp2_with (go_at_call 32; refine Hiso.out.mono ?_; rintro e9 w9 ⟨rfl, rfl⟩)
                          refine Hov.out.mono ?_
                          rintro e9 w4 ⟨rfl, hc4, hg4⟩
                          have Hs4 := hide (hs3.over hc4 hg4)
                          clear hs3 hc4 hg4 ht3 hG3 hg83 r2 r4 ro fo s0 s1 s2
                          go_wp2_with fail
                          go_roundw
                          case rel => exact ⟨k + 1, by omega, by go_num, by rw [hst.out, Hoi.out], by rw [hst.out, Hoe.out], by rw [hst.out, Hva.out], by
                            rw [hst.out]
                            exact Hs4.out.to (by rw [Htl.out]) rfl (by rw [Htz.out]) rfl rfl rfl rfl⟩
                          case measure => simp [intOf]; omega
    · obtain rfl : k = n := by omega
      go_wp2_with fail
      refine bodyPost_end (results_none rfl _ _ _) rfl ?_
      exact ⟨rfl, hes.pa, hes.cl, hes.lv, hes.ou, hes.chg⟩
end Go.Proofs.YtdikfldogmbeaaaDoor.Bd
