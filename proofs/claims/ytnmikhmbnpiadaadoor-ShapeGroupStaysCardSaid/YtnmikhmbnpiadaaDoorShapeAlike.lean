/- The contract of slices.Sort on a row of ints that the call has made: the same row, sorted. (Towards shape.alike.) -/
import Derived.Test.YtnmikhmbnpiadaaDoorShapeShelf
import Derived.Test.YtnmikhmbnpiadaaDoorShapeClone
import Derived.Sort.OwnSortedInts
namespace Go.Proofs.YtnmikhmbnpiadaaDoor.Shp
open Go.RowKit Go.Frm

theorem below_of_grown {w w' : World} {base : Nat} {row : Option Nat} (hg : w.grownBy w' row) (hb : base ≤ w.heap.size) (hr : ∀ k, row = some k → base ≤ k) : Below base w w' :=
  ⟨hg.os, hg.tape, hg.output, hg.size, fun k hk => hg.block k (by omega) (fun e => by have := hr k e.symm; omega)⟩
theorem sort_own {w : World} {base n : Nat} {v : Value} {xs : List Int} (hxl : xs.length = n) (hv : w.ownsRow base 3 1 v n (xs.map (Value.int .i64))) (hb : base ≤ w.heap.size) (hl : xs.length ≤ 100000) :
    Calls Tryd.prog 39 #[v] w fun e w' => e = .returned (.tuple #[]) ∧ w'.ownsRow base 3 1 v n ((xs.mergeSort fun x y => decide (x ≤ y)).map (Value.int .i64)) ∧ Below base w w' := by
  subst hxl
  rcases hv.2 with ⟨rfl, h0⟩ | ⟨g, cap, cur, rfl, hg, hc, hn, hcap, hsz, ht⟩
  · have hx : xs = [] := List.eq_nil_of_length_eq_zero h0
    subst hx
    refine (Tryd.slices_Sort_int_none none 0 w).mono ?_
    rintro e w' ⟨rfl, rfl⟩
    exact ⟨rfl, by simpa using hv, Below.refl _ _⟩
  · have hlt : g < w.heap.size := (Array.getElem?_eq_some_iff.1 hc).1
    rw [Nat.mul_one] at ht
    refine (Tryd.slices_Sort_int g 0 cap xs w (holds_of_blockI hc ht) hlt (by omega)).mono ?_
    rintro e w' ⟨rfl, m, os, rfl⟩
    exact ⟨rfl, ownsRow_sortedI (by simp) hg hc hn hcap hsz, below_of_grown (grownBy_sortedI _) hb (fun k hk => by cases hk; exact hg)⟩

/-- what alike answers for items none of which stands twice -/
def AkPost (n : Nat) (G : Nat → Nat → Int) (zs : List Int) (w : World) (e : Ending) (w' : World) : Prop :=
  Below w.heap.size w w' ∧
  ((e = .returned (.tuple #[.slice none 0 0, .int .i64 7]) ∧ (zs = [] ∨ ∃ z ∈ zs, ∀ j, j < n → G j 0 ≠ z)) ∨
   (e = .returned (.tuple #[.slice none 0 0, .int .i64 14]) ∧ ∃ i j, i < n ∧ j < n ∧ G i 1 ≠ G j 1) ∨
   ∃ (K : Nat → Nat) (A : Option Addr) (c : Nat), e = .returned (.tuple #[.slice A zs.length c, .int .i64 0]) ∧ zs ≠ [] ∧ (∀ i, i < zs.length → K i < n ∧ G (K i) 0 = ix zs i ∧ G (K i) 1 = G (K 0) 1) ∧
     w'.ownsRow w.heap.size 3 1 (.slice A zs.length c) zs.length (((tab zs.length (fun i => (K i : Int))).mergeSort fun x y => decide (x ≤ y)).map (Value.int .i64)))
theorem int_info : (Tryd.prog.info? 3).map (fun i => (i.zero, i.size, i.bytes)) = some (some (.int .i64 0), 1, 8) := by kernel_rfl
theorem ix_mem {zs : List Int} {i : Nat} (h : i < zs.length) : ix zs i ∈ zs := by
  have e : ix zs i = zs[i] := by simp [ix, h]
  rw [e]
  exact List.getElem_mem h
theorem take_no {zs : List Int} (hnd : zs.Nodup) {i : Nat} (h : i < zs.length) : (zs.take i).contains (ix zs i) = false := by
  have e : ix zs i = zs[i] := by simp [ix, h]
  rw [e, List.contains_eq_mem, decide_eq_false_iff_not]
  intro hm
  obtain ⟨j, hj, hje⟩ := List.mem_iff_getElem.1 hm
  rw [List.length_take] at hj
  rw [List.getElem_take] at hje
  exact (List.pairwise_iff_getElem.1 hnd j i (by omega) h (by omega)) hje
set_option maxRecDepth 100000 in
set_option maxHeartbeats 2000000 in
theorem alike_ok (A Ai : Option Addr) (n c ci : Nat) (G : Nat → Nat → Int) (T : Nat → Nat → ByteArray) (zs : List Int) (w : World) (ho : ShOk G n) (hr : RdF w A n 12 (shV G T)) (hnc : n ≤ c) (hz : RdI w Ai zs) (hzc : zs.length ≤ ci) (hl : zs.length ≤ 100) (hnd : zs.Nodup) :
    Calls Tryd.prog 30 #[.slice A n c, .slice Ai zs.length ci, .int .i64 1] w (AkPost n G zs w) := by
  have hn := ho.few
  have Hch := hide (check_ok A n c G T w ho hr hnc)
  obtain ⟨K, hK⟩ : ∃ K : Nat → Int, ∀ i, FirstAt G n (ix zs i) (K i) := ⟨fun i => (firstAt G (ix zs i) n).choose, fun i => (firstAt G (ix zs i) n).choose_spec⟩
  have Hfi := hide (fun wx (hx : RdF wx A n 12 (shV G T)) (i : Nat) => find_ok A n c G T (ix zs i) wx hx (by omega) (K i) (hK i))
  have Ho := hide ho
  have HK := hide hK
  have Hnd := hide hnd
  clear ho hK hnd
  go_enter Tryd.func30, Tryd.ntmps30
  go_wp2_with fail
  refine Hch.out.mono ?_
  rintro e w1 ⟨rfl, hb1⟩
  have hr1 := hr.below hb1
  have hz1 := hz.below hb1
  clear Hch
  by_cases h0 : zs.length < 1
  · have d0 : decide ((zs.length : Int) < 1) = true := by simp; omega
    go_wp2_with fail
    go_ret2
    exact ⟨hb1, .inl ⟨rfl, .inl (List.eq_nil_of_length_eq_zero (by omega))⟩⟩
  · have d0 : decide ((zs.length : Int) < 1) = false := by simp; omega
    go_wp2_with fail
    clear hr1 hz1
    go_loopw [9, 24] (fun a b' wr => ∃ i : Nat, i ≤ zs.length ∧ b' = .int .i64 i ∧ (∀ j, j < i → 0 ≤ K j ∧ G (K j).toNat 1 = G (K 0).toNat 1) ∧ wr.ownsRow w.heap.size 3 1 a i ((tab i K).map (Value.int .i64)) ∧ Below w.heap.size w wr) (fun _ b' _ => zs.length - (intOf b').toNat)
    case atStart => exact ⟨0, by omega, rfl, fun j hj => by omega, World.ownsRow_nil _ _ _ _, hb1⟩
    case round =>
      clear hb1
      obtain ⟨i, hi, rfl, hpre, hown, hbl⟩ := hrel
      have Hpre := hide hpre
      clear hpre
      obtain ⟨A5, c5, rfl⟩ := own_form hown
      by_cases hlt : i < zs.length
      · have hcs0 := hz.below hbl
        obtain ⟨b, off, rfl, kz⟩ := hcs0.at_ hlt
        have hcs : ∀ j, j < zs.length → wr.cell? ⟨b, off + j, none⟩ = some (.int .i64 (zs.getD j 0)) := by
          rcases hcs0 with h | ⟨b', off', hA, hc⟩
          · rw [h] at hlt; exact absurd hlt (by simp)
          · injection hA with hA
            injection hA with hA1 hA2
            subst hA1 hA2
            exact hc
        have Hcs := hide hcs
        clear hcs hcs0
        have i0 : (0 : Int) ≤ (i : Int) := by omega
        have i1 : (i : Int) < (zs.length : Int) := by omega
        go_wp2_with fail
        refine (Hfi.out wr (hr.below hbl) i).mono ?_
        rintro e w2 ⟨rfl, hb2⟩
        have hbl2 := hbl.trans (hb2.mono hbl.size)
        have hown2 := own_below hown hb2
        clear hown kz hbl
        rcases HK.out i with ⟨pp, hKp, hpn, hpi, _⟩ | ⟨hKm, hno⟩
        · have d1 : decide (K i < 0) = false := by rw [hKp]; simp
          go_wp2_with fail
          refine (Tryd.slices_Contains_int b off i ci zs (ix zs i) w2 (by omega) (by omega) (fun j hj => (hb2.cell (World.block_lt_of_cell? wr _ (Hcs.out j hj))).trans (Hcs.out j hj))).mono ?_
          rintro e w3 ⟨rfl, rfl⟩
          rw [take_no Hnd.out hlt]
          clear hb2 Hcs
          have Kz := hide hKp
          go_wp2_with fail
          obtain ⟨p0, hK0, hp0⟩ : ∃ p0 : Nat, K 0 = (p0 : Int) ∧ p0 < n := by
            rcases HK.out 0 with ⟨q, h1, h2, _, _⟩ | ⟨h1, _⟩
            · exact ⟨q, h1, h2⟩
            · exfalso
              rcases Nat.eq_zero_or_pos i with h | h
              · subst h; have := Kz.out; omega
              · have := (Hpre.out 0 h).1; omega
          obtain ⟨bA, oA, rfl, m1⟩ := (hr.below hbl2).at_ hpn
          obtain ⟨bA', oA', hA, m2⟩ := (hr.below hbl2).at_ hp0
          injection hA with hA
          injection hA with hA1 hA2
          subst hA1 hA2
          have q1 : w3.cell? ⟨bA, oA + pp * 12 + 1, none⟩ = some (.int .i64 (G pp 1)) := m1 1 (by omega)
          have q2 : w3.cell? ⟨bA, oA + p0 * 12 + 1, none⟩ = some (.int .i64 (G p0 1)) := m2 1 (by omega)
          obtain ⟨b', o', hA', q3⟩ := (hz.below hbl2).at_ (show 0 < zs.length by omega)
          injection hA' with hA'
          injection hA' with hA1 hA2
          subst hA1 hA2
          rw [Nat.add_zero] at q3
          have s1 : (0 : Int) ≤ (pp : Int) := by omega
          have s2 : (pp : Int) < (n : Int) := by omega
          have s3 : (0 : Int) ≤ (p0 : Int) := by omega
          have s4 : (p0 : Int) < (n : Int) := by omega
          have s5 : (0 : Int) < (zs.length : Int) := by omega
          have s6 : 0 < zs.length := by omega
          have s7 : zs.length ≠ 0 := by omega
          have l1 := World.block_lt_of_cell? _ _ q1
          have l2 := World.block_lt_of_cell? _ _ q2
          have l3 := World.block_lt_of_cell? _ _ q3
          have Hl := hide (And.intro l1 (And.intro l2 l3))
          have Hf0 := hide (Hfi.out _ (hr.below (below_drewN hbl2 1)) 0)
          rw [hK0] at Hf0
          clear m1 m2 l1 l2 l3
          go_region_held3 (fun w' => w'.cell? ⟨bA, oA + pp * 12 + 1, none⟩ = some (.int .i64 (G pp 1)) ∧ w'.cell? ⟨bA, oA + p0 * 12 + 1, none⟩ = some (.int .i64 (G p0 1)) ∧ w'.cell? ⟨b, off, none⟩ = some (.int .i64 (ix zs 0)))
            (first
              | go_keep
              | exact ⟨(hb1.cell (p := ⟨bA, oA + pp * 12 + 1, none⟩) Hl.out.1).trans q1, (hb1.cell (p := ⟨bA, oA + p0 * 12 + 1, none⟩) Hl.out.2.1).trans q2, (hb1.cell (p := ⟨b, off, none⟩) Hl.out.2.2).trans q3⟩)
            ((go_at_call 23; refine Hf0.out.mono ?_; rintro e w4 ⟨rfl, hb1⟩))
          have hbl4 := (below_drewN hbl2 1).trans (hb1.mono hbl2.size)
          have hown4 := own_below (show (w3.drewN 1).ownsRow w.heap.size 3 1 (.slice A5 i c5) i ((tab i K).map (Value.int .i64)) from hown2) hb1
          clear hbl2 hown2 hb1 q1 q2 q3 Hf0 Hl
          by_cases hE : G pp 1 = G p0 1
          · have d2 : (G pp 1 != G p0 1) = false := by simp [hE]
            have hbs := hbl4.size
            go_wp2_with (at_builtin; refine wpL_append rfl rfl Tryd.underlying32 int_info rfl (by decide) rfl rfl (hown4.alloc _) (news_at _ _ _ _ (by simp)) rfl (by simp [Value.oneCell']) (by omega) (by omega) (by simp; omega) ?_; intro v5 w5 hown5 hgrow5)
            refine ⟨⟨i + 1, by omega, by go_num, fun j hj => ?_, ?_, below_app (hbl4.alloc hbs _) (by simp; omega) (hown4.alloc _) hgrow5⟩, by simp only [intOf]; omega⟩
            · by_cases hji : j < i
              · exact Hpre.out j hji
              · have hj2 : j = i := by omega
                subst hj2
                exact ⟨by rw [Kz.out]; omega, by rw [Kz.out, hK0]; exact hE⟩
            · rw [tab_succ, List.map_append, Kz.out]
              exact hown5
          · have d2 : (G pp 1 != G p0 1) = true := by simp [hE]
            go_wp2_with fail
            go_ret2
            exact ⟨hbl4, .inr (.inl ⟨rfl, pp, p0, hpn, hp0, hE⟩)⟩
        · have d1 : decide (K i < 0) = true := by rw [hKm]; decide
          go_wp2_with fail
          go_ret2
          exact ⟨hbl2, .inl ⟨rfl, .inr ⟨ix zs i, ix_mem hlt, hno⟩⟩⟩
      · have hin : zs.length = i := by omega
        subst hin
        go_wp2_with fail
        refine (sort_own (tab_length _ _) hown hbl.size (by rw [tab_length]; omega)).mono ?_
        rintro e w2 ⟨rfl, hs2, hb2⟩
        have hbl2 := hbl.trans (hb2.mono (Nat.le_refl _))
        clear hown hbl hb2
        go_wp2_with fail
        go_ret2
        refine ⟨hbl2, .inr (.inr ⟨fun i => (K i).toNat, A5, c5, rfl, by intro h; rw [h] at h0; exact h0 (by decide), fun i hi => ?_, ?_⟩)⟩
        · obtain ⟨h1, h2⟩ := Hpre.out i hi
          rcases HK.out i with ⟨pp, hKp, hpn, hpi, _⟩ | ⟨hKm, _⟩
          · exact ⟨by show (K i).toNat < n; omega, by show G (K i).toNat 0 = _; rw [hKp]; exact hpi, h2⟩
          · omega
        · have e1 : tab zs.length (fun i => ((K i).toNat : Int)) = tab zs.length K := tab_congr (fun i hi => by have := (Hpre.out i hi).1; omega)
          rw [e1]
          exact hs2
end Go.Proofs.YtnmikhmbnpiadaaDoor.Shp
