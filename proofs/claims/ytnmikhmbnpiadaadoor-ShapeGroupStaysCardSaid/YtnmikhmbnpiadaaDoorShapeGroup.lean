/- The contract of shape.Group on a small drawing. -/
import Derived.Test.YtnmikhmbnpiadaaDoorShapeGroupPlain
import Derived.Test.YtnmikhmbnpiadaaDoorShapeFrame
import Derived.Test.YtnmikhmbnpiadaaDoorShapeAlike
import Derived.Test.YtnmikhmbnpiadaaDoorSink
import Derived.Deep.CutBlock
import Derived.BigQuiet
namespace Go.Proofs.YtnmikhmbnpiadaaDoor.Shp
open Go.RowKit Go.Frm

theorem contains_rd (A : Option Addr) (c : Nat) (zs : List Int) (x : Int) (w : World) (hz : RdI w A zs) (hl : zs.length ≤ 1000) :
    Calls Tryd.prog 17 #[.slice A zs.length c, .int .i64 x] w fun e w' => e = .returned (.bool (zs.contains x)) ∧ w' = w := by
  rcases hz with rfl | ⟨b, off, rfl, hc⟩
  · exact (Tryd.slices_Contains_int_empty A c x w).mono (fun e w' ⟨h1, h2⟩ => ⟨by rw [h1]; rfl, h2⟩)
  · exact (Tryd.slices_Contains_int b off zs.length c zs x w (Nat.le_refl _) (by omega) hc).mono (fun e w' ⟨h1, h2⟩ => ⟨by rw [h1, List.take_length], h2⟩)
/-- what Group leaves -/
def GpPost (n : Nat) (G : Nat → Nat → Int) (T : Nat → Nat → ByteArray) (w : World) (e : Ending) (w' : World) : Prop :=
  Below w.heap.size w w' ∧ (e = .returned (.tuple #[.slice none 0 0, .int .i64 7]) ∨ e = .returned (.tuple #[.slice none 0 0, .int .i64 14]) ∨
    ∃ (sel : Nat → Bool) (a : Nat) (X Y W Z : Int) (A : Option Addr) (c : Nat), Grp G n sel a ∧ FrOk X Y W Z ∧ e = .returned (.tuple #[.slice A (n + 1) c, .int .i64 0]) ∧
      w'.ownsRow w.heap.size 23 12 (.slice A (n + 1) c) (n + 1) (rowF (n + 1) 12 (shV (gpG G n sel a X Y W Z) (gpT G n sel a T))))
/-- the frame while it grows -/
structure FrB (X0 Y0 X1 Y1 : Int) : Prop where
  x : -20000 ≤ X0 ∧ X0 ≤ X1 ∧ X1 ≤ 20000
  y : -20000 ≤ Y0 ∧ Y0 ≤ Y1 ∧ Y1 ≤ 20000
theorem mn_le (p : Nat → Int) : ∀ m, mnU p m ≤ p 0
  | 0 => Int.le_refl _
  | m + 1 => by
    have := mn_le p m
    unfold mnU
    split <;> omega
theorem mx_ge (p : Nat → Int) : ∀ m, p 0 ≤ mxU p m
  | 0 => Int.le_refl _
  | m + 1 => by
    have := mx_ge p m
    unfold mxU
    split <;> omega
theorem mn_bd {p : Nat → Int} (h : ∀ i, -20000 ≤ p i ∧ p i ≤ 20000) : ∀ m, -20000 ≤ mnU p m
  | 0 => (h 0).1
  | m + 1 => by
    have := mn_bd h m
    have := h m
    unfold mnU
    split <;> omega
theorem mx_bd {p : Nat → Int} (h : ∀ i, -20000 ≤ p i ∧ p i ≤ 20000) : ∀ m, mxU p m ≤ 20000
  | 0 => (h 0).2
  | m + 1 => by
    have := mx_bd h m
    have := h m
    unfold mxU
    split <;> omega
theorem fr_one {G : Nat → Nat → Int} {n k : Nat} (hs : Sml G n) (hk : k < n) : FrB (mnU (ctX G k) 4) (mnU (ctY G k) 4) (mxU (ctX G k) 4) (mxU (ctY G k) 4) := by
  have h := ct_small hs hk
  have a1 := mn_le (ctX G k) 4
  have a2 := mx_ge (ctX G k) 4
  have a3 := mn_le (ctY G k) 4
  have a4 := mx_ge (ctY G k) 4
  exact ⟨⟨mn_bd (fun i => (h i).1) 4, by omega, mx_bd (fun i => (h i).1) 4⟩, ⟨mn_bd (fun i => (h i).2) 4, by omega, mx_bd (fun i => (h i).2) 4⟩⟩
/-- the cells of the new group -/
def grC (par X Y W Z : Int) : Array Value := #[.int .i64 77, .int .i64 par, .int .i64 5, .int .i64 X, .int .i64 Y, .int .i64 W, .int .i64 Z, .int .i64 0, .int .i64 0, .int .i64 0, .string ⟨#[]⟩, .string ⟨#[]⟩]
theorem bool_info : (Tryd.prog.info? 4).map (fun i => (i.zero, i.size, i.bytes)) = some (some (.bool false), 1, 1) := by kernel_rfl
/-- rows of a list of shapes -/
def rcV (G : Nat → Nat → Int) (sel : Nat → Bool) (T : Nat → Nat → ByteArray) (par X Y W Z : Int) (c : Option Nat) (j : Nat) : Value := if j < 10 then .int .i64 (coV G sel 77 par X Y W Z c j) else .string (coT T c j)
def rowsL (G : Nat → Nat → Int) (sel : Nat → Bool) (T : Nat → Nat → ByteArray) (par X Y W Z : Int) (L : List (Option Nat)) : List Value := L.flatMap fun c => (List.range 12).map (rcV G sel T par X Y W Z c)
theorem rowsL_push (G : Nat → Nat → Int) (sel : Nat → Bool) (T : Nat → Nat → ByteArray) (par X Y W Z : Int) (L : List (Option Nat)) (c : Option Nat) : rowsL G sel T par X Y W Z (L ++ [c]) = rowsL G sel T par X Y W Z L ++ (List.range 12).map (rcV G sel T par X Y W Z c) := by
  unfold rowsL
  rw [List.flatMap_append]
  simp
theorem rowsL_app (G : Nat → Nat → Int) (sel : Nat → Bool) (T : Nat → Nat → ByteArray) (par X Y W Z : Int) (L K : List (Option Nat)) : rowsL G sel T par X Y W Z (L ++ K) = rowsL G sel T par X Y W Z L ++ rowsL G sel T par X Y W Z K := List.flatMap_append ..
theorem rowsL_all (G : Nat → Nat → Int) (sel : Nat → Bool) (T : Nat → Nat → ByteArray) (par X Y W Z : Int) (L : List (Option Nat)) : rowsL G sel T par X Y W Z L = rowF L.length 12 (fun i => rcV G sel T par X Y W Z (L.getD i none)) := by
  unfold rowsL rowF
  conv => lhs; rw [show L = (List.range L.length).map (fun i => L.getD i none) from by
    apply List.ext_getElem (by simp)
    intro i h1 h2
    simp [List.getElem?_eq_getElem h1]]
  rw [List.flatMap_map]
/-- the sorted places -/
structure Srt (G : Nat → Nat → Int) (n : Nat) (S : List Int) : Prop where
  ne : 0 < S.length
  few : S.length ≤ 100
  lt : ∀ i, i < S.length → ∃ k : Nat, ix S i = (k : Int) ∧ k < n
  grp : Sml G n → Grp G n (fun k => S.contains (k : Int)) (ix S 0).toNat
theorem srt_of {G : Nat → Nat → Int} {n m : Nat} {K : Nat → Nat} (hm : 0 < m) (hm2 : m ≤ 100) (hK : ∀ i, i < m → K i < n ∧ G (K i) 1 = G (K 0) 1) : Srt G n ((tab m (fun i => (K i : Int))).mergeSort fun x y => decide (x ≤ y)) := by
  have hp := List.mergeSort_perm (tab m (fun i => (K i : Int))) (fun x y => decide (x ≤ y))
  have hso := List.pairwise_mergeSort (le := fun x y : Int => decide (x ≤ y)) (fun a b c h1 h2 => by simp at h1 h2 ⊢; omega) (fun a b => by simp; omega) (tab m (fun i => (K i : Int)))
  have hlen : ((tab m (fun i => (K i : Int))).mergeSort fun x y => decide (x ≤ y)).length = m := by rw [hp.length_eq, tab_length]
  have hmem : ∀ z, z ∈ ((tab m (fun i => (K i : Int))).mergeSort fun x y => decide (x ≤ y)) ↔ ∃ i, i < m ∧ z = (K i : Int) := by
    intro z
    rw [hp.mem_iff]
    unfold tab
    rw [List.mem_map]
    constructor
    · rintro ⟨i, hi, rfl⟩
      exact ⟨i, List.mem_range.1 hi, rfl⟩
    · rintro ⟨i, hi, rfl⟩
      exact ⟨i, List.mem_range.2 hi, rfl⟩
  generalize ((tab m (fun i => (K i : Int))).mergeSort fun x y => decide (x ≤ y)) = S at *
  have hat : ∀ i, i < S.length → ∃ j, j < m ∧ ix S i = (K j : Int) := fun i hi => (hmem _).1 (ix_mem hi)
  refine ⟨by omega, by omega, fun i hi => ?_, fun hs => ?_⟩
  · obtain ⟨j, hj, e⟩ := hat i hi
    exact ⟨K j, e, (hK j hj).1⟩
  · obtain ⟨j, hj, e⟩ := hat 0 (by omega)
    have ea : (ix S 0).toNat = K j := by omega
    rw [ea]
    refine ⟨hs, (hK j hj).1, ?_, fun k hk hk2 => ?_⟩
    · show S.contains ((K j : Nat) : Int) = true
      rw [List.contains_iff_mem]
      exact (hmem _).2 ⟨j, hj, rfl⟩
    · have hk2 : S.contains (k : Int) = true := hk2
      rw [List.contains_iff_mem] at hk2
      obtain ⟨i, hi, hik⟩ := (hmem _).1 hk2
      have hle : ix S 0 ≤ (k : Int) := by
        obtain ⟨q, hq, hqe⟩ := List.getElem_of_mem hk2
        rcases Nat.eq_zero_or_pos q with h0 | h0
        · subst h0
          rw [← hqe, ix_eq (by omega)]
          exact Int.le_refl _
        · have := List.pairwise_iff_getElem.1 hso 0 q (by omega) hq h0
          rw [hqe] at this
          rw [ix_eq (by omega)]
          simpa using this
      refine ⟨by omega, ?_⟩
      have h1 := (hK i hi).2
      have h2 := (hK j hj).2
      have : k = K i := by omega
      rw [this, h1, h2]
set_option maxRecDepth 100000 in
set_option maxHeartbeats 8000000 in
theorem Group_ok (A Ai : Option Addr) (n c ci : Nat) (G : Nat → Nat → Int) (T : Nat → Nat → ByteArray) (zs : List Int) (w : World) (hq : TabQ w) (hs : Sml G n) (hr : RdF w A n 12 (shV G T)) (hnc : n ≤ c) (hz : RdI w Ai zs) (hzc : zs.length ≤ ci) (hl : zs.length ≤ 100) (hnd : zs.Nodup) :
    Calls Tryd.prog 20 #[.slice A n c, .slice Ai zs.length ci, .int .i64 77] w (GpPost n G T w) := by
  have few := hs.few
  have Hal := hide (alike_ok A Ai n c ci G T zs w hs.ok hr hnc hz hzc hl hnd)
  have Hfi := hide (fun wx (hx : RdF wx A n 12 (shV G T)) => find_ok A n c G T 77 wx hx (by omega) (-1) (.inr ⟨rfl, fun j hj => by rw [hs.item j hj]; omega⟩))
  have Hs := hide hs
  have Hq := hide hq
  clear hs hq hz
  go_enter Tryd.func20, Tryd.ntmps20
  go_wp2_with fail
  refine Hal.out.mono ?_
  rintro e w1 ⟨hb1, hcase⟩
  clear Hal
  rcases hcase with ⟨rfl, _⟩ | ⟨rfl, _⟩ | ⟨K, A8, c8, rfl, hne, hK, hown⟩
  · go_wp2_with fail
    go_ret2
    exact ⟨hb1, .inl rfl⟩
  · go_wp2_with fail
    go_ret2
    exact ⟨hb1, .inr (.inl rfl)⟩
  · have hm : 0 < zs.length := by
      cases zs with
      | nil => exact absurd rfl hne
      | cons x xs => simp
    have hsrt := srt_of (G := G) hm hl (fun i hi => ⟨(hK i hi).1, (hK i hi).2.2⟩)
    have hown8 : w1.ownsRow w.heap.size 3 1 (.slice A8 zs.length c8) zs.length (((tab zs.length (fun i => (K i : Int))).mergeSort fun x y => decide (x ≤ y)).map (Value.int .i64)) := hown
    have hlen : ((tab zs.length (fun i => (K i : Int))).mergeSort fun x y => decide (x ≤ y)).length = zs.length := by rw [List.length_mergeSort, tab_length]
    generalize ((tab zs.length (fun i => (K i : Int))).mergeSort fun x y => decide (x ≤ y)) = S at *
    rw [← hlen] at hown8
    have Hlen := hide hlen
    rw [← hlen]
    have hri8 := RdI.of_own hown8
    obtain ⟨g8, rfl, hg8⟩ := own_at hown8 hsrt.ne
    have hr1 := hr.below hb1
    have hp0 := hsrt.ne
    have hp1 := hsrt.few
    have Hsrt := hide hsrt
    clear hK hne hown hown8 hlen hsrt hm hnd hl hzc hr
    have Hf1 := hide (Hfi.out w1 hr1)
    go_wp2_with fail
    refine Hf1.out.mono ?_
    rintro e w2 ⟨rfl, hb2⟩
    have hbl2 := hb1.trans (hb2.mono hb1.size)
    have hr2 := hr1.below hb2
    have hri2 := hri8.below hb2
    have hq2 := Hq.out.below hbl2
    clear Hf1 Hfi hb1 hb2 hr1 hri8 hg8
    obtain ⟨a, ha, han⟩ := Hsrt.out.lt 0 hp0
    have s0 : w2.cell? ⟨g8, 0, none⟩ = some (.int .i64 (a : Int)) := by
      have := hri2.get (k := 0) hp0
      rw [Nat.zero_add, ha] at this
      exact this
    obtain ⟨bA, oA, rfl, k0, k1, k2, k3, k4, k5, k6, k7, k8, k9, k10, k11⟩ := cells12 hr2 han
    have Hfr := hide (fun k (hk : k < n) wx (hq : TabQ wx) => frame_ok n k G T wx hq Hs.out.ok hk)
    have s1 : (a : Int) < (n : Int) := by omega
    have Hf2 := hide (Hfr.out a han w2 hq2)
    go_wp2_with fail
    refine Hf2.out.mono ?_
    rintro e w3 ⟨rfl, hb3⟩
    have hbl3 := hbl2.trans (hb3.mono hbl2.size)
    have hr3 := hr2.below hb3
    have hri3 := hri2.below hb3
    have hq3 := hq2.below hb3
    have hfb := fr_one Hs.out han
    clear Hf2 hb3 hr2 hri2 hq2 s0 k0 k1 k2 k3 k4 k5 k6 k7 k8 k9 k10 k11 hbl2
    generalize mnU (ctX G a) 4 = X0 at *
    generalize mnU (ctY G a) 4 = Y0 at *
    generalize mxU (ctX G a) 4 = X1 at *
    generalize mxU (ctY G a) 4 = Y1 at *
    go_wp2_with fail
    have bm4 := Blk.new w3 41 #[.int .i64 X0, .int .i64 Y0, .int .i64 X1, .int .i64 Y1]
    have hb34 := (Below.refl w3.heap.size w3).alloc (Nat.le_refl _) (.cells #[.int .i64 X0, .int .i64 Y0, .int .i64 X1, .int .i64 Y1] 41)
    generalize w3.alloc (.cells #[.int .i64 X0, .int .i64 Y0, .int .i64 X1, .int .i64 Y1] 41) = w4 at *
    obtain ⟨M, hM⟩ : ∃ M, M = w3.heap.size := ⟨_, rfl⟩
    have HM := hide hM
    rw [← hM] at bm4 hb34
    simp only [← hM]
    clear hM
    go_loopw [53] (fun a1 wr => ∃ (i : Nat) (X0 Y0 X1 Y1 : Int), i ≤ S.length ∧ a1 = .int .i64 i ∧ FrB X0 Y0 X1 Y1 ∧ Blk wr M 41 #[.int .i64 X0, .int .i64 Y0, .int .i64 X1, .int .i64 Y1] ∧ Below M w3 wr) (fun a1 _ => S.length - (intOf a1).toNat)
    case atStart => exact ⟨0, X0, Y0, X1, Y1, by omega, rfl, hfb, bm4, hb34⟩
    case round =>
      clear hfb bm4 hb34
      obtain ⟨i, x0, y0, x1, y1, hi, rfl, hfb, bm, hbr⟩ := hrel
      have hbr' : Below w3.heap.size w3 wr := by rw [← HM.out]; exact hbr
      by_cases hil : i < S.length
      ·
        obtain ⟨k, hk, hkn⟩ := Hsrt.out.lt i hil
        have s0 : wr.cell? ⟨g8, i, none⟩ = some (.int .i64 (k : Int)) := by
          have := (hri3.below hbr').get (k := i) hil
          rw [Nat.zero_add, hk] at this
          exact this
        obtain ⟨bB, oB, hA, k0, k1, k2, k3, k4, k5, k6, k7, k8, k9, k10, k11⟩ := cells12 (hr3.below hbr') hkn
        injection hA with hA
        injection hA with hA hA'
        subst hA hA'
        have Hf := hide (Hfr.out k hkn wr (hq3.below hbr'))
        have i1 : (k : Int) < (n : Int) := by omega
        go_upto_region 13 with (go_at_call 33; refine Hf.out.mono ?_; rintro e wk ⟨rfl, hbk⟩)
        have hfk := fr_one Hs.out hkn
        have bmk := (bm.below hbk bm.lt).alloc (.cells #[.int .i64 (mnU (ctX G k) 4), .int .i64 (mnU (ctY G k) 4), .int .i64 (mxU (ctX G k) 4), .int .i64 (mxU (ctY G k) 4)] 41)
        have bxk := Blk.new wk 41 #[.int .i64 (mnU (ctX G k) 4), .int .i64 (mnU (ctY G k) 4), .int .i64 (mxU (ctX G k) 4), .int .i64 (mxU (ctY G k) 4)]
        have hMw : M < wk.heap.size := Nat.lt_of_lt_of_le bm.lt hbk.size
        have hbrk : Below M w3 (wk.alloc (.cells #[.int .i64 (mnU (ctX G k) 4), .int .i64 (mnU (ctY G k) 4), .int .i64 (mxU (ctX G k) 4), .int .i64 (mxU (ctY G k) 4)] 41)) := (hbr.trans (hbk.mono (Nat.le_of_lt bm.lt))).alloc (Nat.le_of_lt hMw) _
        have hne : M ≠ wk.heap.size := by omega
        clear bm hbr hbk Hf k0 k1 k2 k3 k4 k5 k6 k7 k8 k9 k10 k11 s0
        generalize wk.alloc (.cells #[.int .i64 (mnU (ctX G k) 4), .int .i64 (mnU (ctY G k) 4), .int .i64 (mxU (ctX G k) 4), .int .i64 (mxU (ctY G k) 4)] 41) = wx at *
        generalize wk.heap.size = Xb at *
        generalize mnU (ctX G k) 4 = u0 at *
        generalize mnU (ctY G k) 4 = v0 at *
        generalize mxU (ctX G k) 4 = u1 at *
        generalize mxU (ctY G k) 4 = v1 at *
        have m0 : wx.cell? ⟨M, 0, none⟩ = some (.int .i64 x0) := bmk.cell 0
        have m1 : wx.cell? ⟨M, 1, none⟩ = some (.int .i64 y0) := bmk.cell 1
        have m2 : wx.cell? ⟨M, 2, none⟩ = some (.int .i64 x1) := bmk.cell 2
        have m3 : wx.cell? ⟨M, 3, none⟩ = some (.int .i64 y1) := bmk.cell 3
        have n0 : wx.cell? ⟨Xb, 0, none⟩ = some (.int .i64 u0) := bxk.cell 0
        have n1 : wx.cell? ⟨Xb, 1, none⟩ = some (.int .i64 v0) := bxk.cell 1
        have n2 : wx.cell? ⟨Xb, 2, none⟩ = some (.int .i64 u1) := bxk.cell 2
        have n3 : wx.cell? ⟨Xb, 3, none⟩ = some (.int .i64 v1) := bxk.cell 3
        have z0 := bmk.frozen 0
        have z1 := bmk.frozen 1
        have z2 := bmk.frozen 2
        have z3 := bmk.frozen 3
        have Hall := hide (And.intro hfb hfk)
        have Hbm := hide (And.intro bmk hbrk)
        clear hfb hfk bmk bxk hbrk hbr'
        go_wp2_with fail
        have hbm2 : Blk ((((wx.setCell ⟨M, 0, none⟩ (.int .i64 (min x0 u0))).setCell ⟨M, 1, none⟩ (.int .i64 (min y0 v0))).setCell ⟨M, 2, none⟩ (.int .i64 (max x1 u1))).setCell ⟨M, 3, none⟩ (.int .i64 (max y1 v1))) M 41 #[.int .i64 (min x0 u0), .int .i64 (min y0 v0), .int .i64 (max x1 u1), .int .i64 (max y1 v1)] :=
          blk_cells (by simp) ((((Hbm.out.1.set_ 0 _).set_ 1 _).set_ 2 _).set_ 3 _)
        obtain ⟨f1, f2⟩ := Hall.out
        obtain ⟨a1, a2⟩ := f1
        obtain ⟨b1, b2⟩ := f2
        exact ⟨⟨i + 1, _, _, _, _, by omega, by simp, ⟨by omega, by omega⟩, hbm2, (((Hbm.out.2.setCell (p := ⟨M, 0, none⟩) (Nat.le_refl _) _).setCell (p := ⟨M, 1, none⟩) (Nat.le_refl _) _).setCell (p := ⟨M, 2, none⟩) (Nat.le_refl _) _).setCell (p := ⟨M, 3, none⟩) (Nat.le_refl _) _⟩, by simp only [intOf]; omega⟩
      · obtain rfl : i = S.length := by omega
        have hr5 := hr3.below hbr'
        have hri5 := hri3.below hbr'
        have hq5 := hq3.below hbr'
        have hbl5 := hbl3.trans (hbr'.mono hbl3.size)
        clear hr3 hri3 hq3 hbl3 hbr hbr'
        have s0 : wr.cell? ⟨g8, 0, none⟩ = some (.int .i64 (a : Int)) := by
          have := hri5.get (k := 0) hp0
          rw [Nat.zero_add, ha] at this
          exact this
        obtain ⟨bB, oB, hA, k0, k1, k2, k3, k4, k5, k6, k7, k8, k9, k10, k11⟩ := cells12 hr5 han
        injection hA with hA
        injection hA with hA hA'
        subst hA hA'
        have m0 : wr.cell? ⟨M, 0, none⟩ = some (.int .i64 x0) := bm.cell 0
        have m1 : wr.cell? ⟨M, 1, none⟩ = some (.int .i64 y0) := bm.cell 1
        have m2 : wr.cell? ⟨M, 2, none⟩ = some (.int .i64 x1) := bm.cell 2
        have m3 : wr.cell? ⟨M, 3, none⟩ = some (.int .i64 y1) := bm.cell 3
        have hx := hfb.x
        have hy := hfb.y
        go_upto_region 15 with fail
        have q1 : IntKind.i64.wrap (x1 - x0) = x1 - x0 := IntWalk.i64_in _ (by omega)
        have q2 : IntKind.i64.wrap (y1 - y0) = y1 - y0 := IntWalk.i64_in _ (by omega)
        clear k0 k2 k3 k4 k5 k6 k7 k8 k9 k10 k11
        have hal : ∀ (wx : World) (o : Obj), wx.cell? ⟨g8, 0, none⟩ = some (.int .i64 (a : Int)) ∧ wx.cell? ⟨bA, oA + a * 12 + 1, none⟩ = some (.int .i64 (G a 1)) ∧ wx.cell? ⟨M, 0, none⟩ = some (.int .i64 x0) ∧ wx.cell? ⟨M, 1, none⟩ = some (.int .i64 y0) ∧ wx.cell? ⟨M, 2, none⟩ = some (.int .i64 x1) ∧ wx.cell? ⟨M, 3, none⟩ = some (.int .i64 y1) → (wx.alloc o).cell? ⟨g8, 0, none⟩ = some (.int .i64 (a : Int)) ∧ (wx.alloc o).cell? ⟨bA, oA + a * 12 + 1, none⟩ = some (.int .i64 (G a 1)) ∧ (wx.alloc o).cell? ⟨M, 0, none⟩ = some (.int .i64 x0) ∧ (wx.alloc o).cell? ⟨M, 1, none⟩ = some (.int .i64 y0) ∧ (wx.alloc o).cell? ⟨M, 2, none⟩ = some (.int .i64 x1) ∧ (wx.alloc o).cell? ⟨M, 3, none⟩ = some (.int .i64 y1) := fun wx o ⟨h1, h2, h3, h4, h5, h6⟩ =>
          ⟨(World.cell?_alloc_lt _ _ _ (World.block_lt_of_cell? wx _ h1)).trans h1, (World.cell?_alloc_lt _ _ _ (World.block_lt_of_cell? wx _ h2)).trans h2, (World.cell?_alloc_lt _ _ _ (World.block_lt_of_cell? wx _ h3)).trans h3, (World.cell?_alloc_lt _ _ _ (World.block_lt_of_cell? wx _ h4)).trans h4, (World.cell?_alloc_lt _ _ _ (World.block_lt_of_cell? wx _ h5)).trans h5, (World.cell?_alloc_lt _ _ _ (World.block_lt_of_cell? wx _ h6)).trans h6⟩
        have Hal := hide hal
        clear hal
        refine wp_region_sink (S := fun w' : World => w'.cell? ⟨g8, 0, none⟩ = some (.int .i64 (a : Int)) ∧ w'.cell? ⟨bA, oA + a * 12 + 1, none⟩ = some (.int .i64 (G a 1)) ∧ w'.cell? ⟨M, 0, none⟩ = some (.int .i64 x0) ∧ w'.cell? ⟨M, 1, none⟩ = some (.int .i64 y0) ∧ w'.cell? ⟨M, 2, none⟩ = some (.int .i64 x1) ∧ w'.cell? ⟨M, 3, none⟩ = some (.int .i64 y1)) 24 (by kernel_rfl) (by kernel_rfl) (by kernel_rfl) (by kernel_rfl) ?hSq (fun hHeld => ?_)
        case hSq => exact ⟨s0, k1, m0, m1, m2, m3⟩
        simp only [List.take_succ_cons, List.take_zero]
        refine wpAnyH_take (i := 0) (v := ?vqn0) rfl (by kernel_rfl) (by kernel_rfl) (by kernel_rfl) (fun _ _ _ h => h) (Or.inl ⟨by rfl, ?hyqn0⟩) (by assumption) ?_
        case hyqn0 => (intro w hSw; (try dsimp only at hSw); go_simp; try with_reducible rfl)
        try simp only [Act.put, List.getElem_toArray, List.getElem_cons_zero, List.getElem_cons_succ, List.setIfInBounds_toArray, List.set_cons_zero, List.set_cons_succ]
        refine wpAnyH_take (i := 1) (v := ?vqn1) rfl (by kernel_rfl) (by kernel_rfl) (by kernel_rfl) (fun _ _ _ h => h) (Or.inl ⟨by rfl, ?hyqn1⟩) (by assumption) ?_
        case hyqn1 => (intro w hSw; (try dsimp only at hSw); go_simp; try with_reducible rfl)
        try simp only [Act.put, List.getElem_toArray, List.getElem_cons_zero, List.getElem_cons_succ, List.setIfInBounds_toArray, List.set_cons_zero, List.set_cons_succ]
        refine wpAnyH_take (i := 2) (v := ?vqn2) rfl (by kernel_rfl) (by kernel_rfl) (by kernel_rfl) (fun _ _ _ h => h) (Or.inl ⟨by rfl, ?hyqn2⟩) (by assumption) ?_
        case hyqn2 => (intro w hSw; (try dsimp only at hSw); go_simp; try with_reducible rfl)
        try simp only [Act.put, List.getElem_toArray, List.getElem_cons_zero, List.getElem_cons_succ, List.setIfInBounds_toArray, List.set_cons_zero, List.set_cons_succ]
        refine wpAnyH_take (i := 3) (v := ?vqn3) rfl (by kernel_rfl) (by kernel_rfl) (by kernel_rfl) (fun _ _ _ h => h) (Or.inl ⟨by rfl, ?hyqn3⟩) (by assumption) ?_
        case hyqn3 => (intro w hSw; (try dsimp only at hSw); go_simp; try with_reducible rfl)
        try simp only [Act.put, List.getElem_toArray, List.getElem_cons_zero, List.getElem_cons_succ, List.setIfInBounds_toArray, List.set_cons_zero, List.set_cons_succ]
        refine wpAnyH_take (i := 4) (v := ?vqn4) rfl (by kernel_rfl) (by kernel_rfl) (by kernel_rfl) (fun _ _ _ h => h) (Or.inl ⟨by rfl, ?hyqn4⟩) (by assumption) ?_
        case hyqn4 => (intro w hSw; (try dsimp only at hSw); go_simp; try with_reducible rfl)
        try simp only [Act.put, List.getElem_toArray, List.getElem_cons_zero, List.getElem_cons_succ, List.setIfInBounds_toArray, List.set_cons_zero, List.set_cons_succ]
        refine wpAnyH_take (i := 5) (v := ?vqn5) rfl (by kernel_rfl) (by kernel_rfl) (by kernel_rfl) (fun _ _ _ h => h) (Or.inl ⟨by rfl, ?hyqn5⟩) (by assumption) ?_
        case hyqn5 => (intro w hSw; (try dsimp only at hSw); go_simp; try with_reducible rfl)
        try simp only [Act.put, List.getElem_toArray, List.getElem_cons_zero, List.getElem_cons_succ, List.setIfInBounds_toArray, List.set_cons_zero, List.set_cons_succ]
        refine wpAnyH_take (i := 6) (v := ?vqn6) rfl (by kernel_rfl) (by kernel_rfl) (by kernel_rfl) (fun _ _ _ h => h) (Or.inl ⟨by rfl, ?hyqn6⟩) (by assumption) ?_
        case hyqn6 => (intro w hSw; (try dsimp only at hSw); go_simp; try with_reducible rfl)
        try simp only [Act.put, List.getElem_toArray, List.getElem_cons_zero, List.getElem_cons_succ, List.setIfInBounds_toArray, List.set_cons_zero, List.set_cons_succ]
        refine wpAnyH_take (i := 7) (v := ?vqn7) rfl (by kernel_rfl) (by kernel_rfl) (by kernel_rfl) (fun _ _ _ h => h) (Or.inl ⟨by rfl, ?hyqn7⟩) (by assumption) ?_
        case hyqn7 => (intro w hSw; (try dsimp only at hSw); go_simp; try with_reducible rfl)
        try simp only [Act.put, List.getElem_toArray, List.getElem_cons_zero, List.getElem_cons_succ, List.setIfInBounds_toArray, List.set_cons_zero, List.set_cons_succ]
        refine wpAnyH_take (i := 8) (v := ?vqn8) rfl (by kernel_rfl) (by kernel_rfl) (by kernel_rfl) (fun _ _ _ h => h) (Or.inl ⟨by rfl, ?hyqn8⟩) (by assumption) ?_
        case hyqn8 => (intro w hSw; (try dsimp only at hSw); go_simp; try with_reducible rfl)
        try simp only [Act.put, List.getElem_toArray, List.getElem_cons_zero, List.getElem_cons_succ, List.setIfInBounds_toArray, List.set_cons_zero, List.set_cons_succ]
        refine wpAnyH_take (i := 9) (v := ?vqn9) rfl (by kernel_rfl) (by kernel_rfl) (by kernel_rfl) (fun _ _ _ h => h) (Or.inl ⟨by rfl, ?hyqn9⟩) (by assumption) ?_
        case hyqn9 => (intro w hSw; (try dsimp only at hSw); go_simp; try with_reducible rfl)
        try simp only [Act.put, List.getElem_toArray, List.getElem_cons_zero, List.getElem_cons_succ, List.setIfInBounds_toArray, List.set_cons_zero, List.set_cons_succ]
        refine wpAnyH_take (i := 10) (v := ?vqn10) rfl (by kernel_rfl) (by kernel_rfl) (by kernel_rfl) (fun _ _ _ h => h) (Or.inl ⟨by rfl, ?hyqn10⟩) (by assumption) ?_
        case hyqn10 => (intro w hSw; (try dsimp only at hSw); go_simp; try with_reducible rfl)
        try simp only [Act.put, List.getElem_toArray, List.getElem_cons_zero, List.getElem_cons_succ, List.setIfInBounds_toArray, List.set_cons_zero, List.set_cons_succ]
        refine wpAnyH_take (i := 11) (v := ?vqn11) rfl (by kernel_rfl) (by kernel_rfl) (by kernel_rfl) (fun _ _ _ h => h) (Or.inl ⟨by rfl, ?hyqn11⟩) (by assumption) ?_
        case hyqn11 => (intro w hSw; (try dsimp only at hSw); go_simp; try with_reducible rfl)
        try simp only [Act.put, List.getElem_toArray, List.getElem_cons_zero, List.getElem_cons_succ, List.setIfInBounds_toArray, List.set_cons_zero, List.set_cons_succ]
        refine wpAnyH_take (i := 12) (v := ?vqn12) rfl (by kernel_rfl) (by kernel_rfl) (by kernel_rfl) (fun _ _ _ h => h) (Or.inl ⟨by rfl, ?hyqn12⟩) (by assumption) ?_
        case hyqn12 => (intro w hSw; (try dsimp only at hSw); go_simp; try with_reducible rfl)
        try simp only [Act.put, List.getElem_toArray, List.getElem_cons_zero, List.getElem_cons_succ, List.setIfInBounds_toArray, List.set_cons_zero, List.set_cons_succ]
        refine wpAnyH_take (i := 13) (v := ?vqn13) rfl (by kernel_rfl) (by kernel_rfl) (by kernel_rfl) (fun _ _ _ h => h) (Or.inl ⟨by rfl, ?hyqn13⟩) (by assumption) ?_
        case hyqn13 => (intro w hSw; (try dsimp only at hSw); go_simp; try with_reducible rfl)
        try simp only [Act.put, List.getElem_toArray, List.getElem_cons_zero, List.getElem_cons_succ, List.setIfInBounds_toArray, List.set_cons_zero, List.set_cons_succ]
        refine wpAnyH_take (i := 14) (v := ?vqn14) rfl (by kernel_rfl) (by kernel_rfl) (by kernel_rfl) (fun _ _ _ h => h) (Or.inl ⟨by rfl, ?hyqn14⟩) (by assumption) ?_
        case hyqn14 => (intro w hSw; (try dsimp only at hSw); go_simp; try with_reducible rfl)
        try simp only [Act.put, List.getElem_toArray, List.getElem_cons_zero, List.getElem_cons_succ, List.setIfInBounds_toArray, List.set_cons_zero, List.set_cons_succ]
        refine wpAnyH_take (i := 15) (v := ?vqn15) rfl (by kernel_rfl) (by kernel_rfl) (by kernel_rfl) (fun _ _ _ h => h) (Or.inl ⟨by rfl, ?hyqn15⟩) (by assumption) ?_
        case hyqn15 => (intro w hSw; (try dsimp only at hSw); go_simp; try with_reducible rfl)
        try simp only [Act.put, List.getElem_toArray, List.getElem_cons_zero, List.getElem_cons_succ, List.setIfInBounds_toArray, List.set_cons_zero, List.set_cons_succ]
        refine wpAnyH_take (i := 16) (v := ?vqn16) rfl (by kernel_rfl) (by kernel_rfl) (by kernel_rfl) (fun _ _ _ h => h) (Or.inl ⟨by rfl, ?hyqn16⟩) (by assumption) ?_
        case hyqn16 => (intro w hSw; (try dsimp only at hSw); go_simp; try with_reducible rfl)
        try simp only [Act.put, List.getElem_toArray, List.getElem_cons_zero, List.getElem_cons_succ, List.setIfInBounds_toArray, List.set_cons_zero, List.set_cons_succ]
        refine wpAnyH_take (i := 17) (v := ?vqn17) rfl (by kernel_rfl) (by kernel_rfl) (by kernel_rfl) (fun _ _ _ h => h) (Or.inl ⟨by rfl, ?hyqn17⟩) (by assumption) ?_
        case hyqn17 => (intro w hSw; (try dsimp only at hSw); go_simp; try with_reducible rfl)
        try simp only [Act.put, List.getElem_toArray, List.getElem_cons_zero, List.getElem_cons_succ, List.setIfInBounds_toArray, List.set_cons_zero, List.set_cons_succ]
        refine wpAnyH_take (i := 18) (v := ?vqn18) rfl (by kernel_rfl) (by kernel_rfl) (by kernel_rfl) (fun _ _ _ h => h) (Or.inl ⟨by rfl, ?hyqn18⟩) (by assumption) ?_
        case hyqn18 => (intro w hSw; (try dsimp only at hSw); go_simp; try with_reducible rfl)
        try simp only [Act.put, List.getElem_toArray, List.getElem_cons_zero, List.getElem_cons_succ, List.setIfInBounds_toArray, List.set_cons_zero, List.set_cons_succ]
        refine wpAnyH_take (i := 19) (v := ?vqn19) rfl (by kernel_rfl) (by kernel_rfl) (by kernel_rfl) (fun _ _ _ h => h) (Or.inl ⟨by rfl, ?hyqn19⟩) (by assumption) ?_
        case hyqn19 => (intro w hSw; (try dsimp only at hSw); go_simp; try with_reducible rfl)
        try simp only [Act.put, List.getElem_toArray, List.getElem_cons_zero, List.getElem_cons_succ, List.setIfInBounds_toArray, List.set_cons_zero, List.set_cons_succ]
        refine wpAnyH_take (i := 20) (v := ?vqn20) rfl (by kernel_rfl) (by kernel_rfl) (by kernel_rfl) (fun _ _ _ h => h) (Or.inl ⟨by rfl, ?hyqn20⟩) (by assumption) ?_
        case hyqn20 => (intro w hSw; (try dsimp only at hSw); go_simp; try with_reducible rfl)
        try simp only [Act.put, List.getElem_toArray, List.getElem_cons_zero, List.getElem_cons_succ, List.setIfInBounds_toArray, List.set_cons_zero, List.set_cons_succ]
        refine wpAnyH_take (i := 21) (v := ?vqn21) rfl (by kernel_rfl) (by kernel_rfl) (by kernel_rfl) (fun _ _ _ h => h) (Or.inl ⟨by rfl, ?hyqn21⟩) (by assumption) ?_
        case hyqn21 => (intro w hSw; (try dsimp only at hSw); go_simp; try with_reducible rfl)
        try simp only [Act.put, List.getElem_toArray, List.getElem_cons_zero, List.getElem_cons_succ, List.setIfInBounds_toArray, List.set_cons_zero, List.set_cons_succ]
        refine wpAnyH_take (i := 22) (v := ?vqn22) rfl (by kernel_rfl) (by kernel_rfl) (by kernel_rfl) (fun _ _ _ h => h) (Or.inl ⟨by rfl, ?hyqn22⟩) (by assumption) ?_
        case hyqn22 => (intro w hSw; (try dsimp only at hSw); go_simp; try with_reducible rfl)
        try simp only [Act.put, List.getElem_toArray, List.getElem_cons_zero, List.getElem_cons_succ, List.setIfInBounds_toArray, List.set_cons_zero, List.set_cons_succ]
        refine wpAnyH_ready (rs := [23]) (by kernel_rfl) (by simp) (AllReadyH.cons rfl (fun K hK => ?_) AllReadyH.nil)
        go_simp
        refine hK.out _ _ ?hkqn23 (fun hHeld => ?_)
        case hkqn23 => exact Hal.out _ _ hHeld
        clear hK K
        try simp only [Act.put, List.getElem_toArray, List.getElem_cons_zero, List.getElem_cons_succ, List.setIfInBounds_toArray, List.set_cons_zero, List.set_cons_succ]
        refine wpAnyH_done (by kernel_rfl) ?_ _
        refine sink_run rfl rfl ?_
        go_simp
        go_upto_region 16 with fail
        have bg6 : Blk (wr.alloc (.cells #[.int .i64 77, .int .i64 (G a 1), .int .i64 5, .int .i64 x0, .int .i64 y0, .int .i64 (x1 - x0), .int .i64 (y1 - y0), .int .i64 0, .int .i64 0, .int .i64 0, .string ⟨#[]⟩, .string ⟨#[]⟩] 23)).drew wr.heap.size 23 (grC (G a 1) x0 y0 (x1 - x0) (y1 - y0)) := (Blk.new wr _ _).drewN 1
        have hbw6 : Below wr.heap.size wr (wr.alloc (.cells #[.int .i64 77, .int .i64 (G a 1), .int .i64 5, .int .i64 x0, .int .i64 y0, .int .i64 (x1 - x0), .int .i64 (y1 - y0), .int .i64 0, .int .i64 0, .int .i64 0, .string ⟨#[]⟩, .string ⟨#[]⟩] 23)).drew := below_drewN ((Below.refl _ _).alloc (Nat.le_refl _) _) 1
        have hr6 := hr5.below hbw6
        have hri6 := hri5.below hbw6
        have hbl6 := hbl5.trans (hbw6.mono hbl5.size)
        have hfo : FrOk x0 y0 (x1 - x0) (y1 - y0) := ⟨by omega, by omega, by omega, by omega⟩
        have hgs : w.heap.size ≤ wr.heap.size := hbl5.size
        clear hbw6 hr5 hri5 hq5 hbl5 m0 m1 m2 m3 s0 k1 hx hy hfb bm Hal q1 q2 Hfr hHeld
        generalize (wr.alloc (.cells #[.int .i64 77, .int .i64 (G a 1), .int .i64 5, .int .i64 x0, .int .i64 y0, .int .i64 (x1 - x0), .int .i64 (y1 - y0), .int .i64 0, .int .i64 0, .int .i64 0, .string ⟨#[]⟩, .string ⟨#[]⟩] 23)).drew = w6 at *
        generalize wr.heap.size = g14 at *
        generalize x1 - x0 = Wd at *
        generalize y1 - y0 = Ht at *
        have hn1 : 1 ≤ n := by omega
        obtain ⟨sel, hsel⟩ : ∃ sel : Nat → Bool, sel = (fun k : Nat => S.contains (k : Int)) := ⟨_, rfl⟩
        have hgrp : Grp G n sel a := by
          have := Hsrt.out.grp Hs.out
          rw [show (ix S 0).toNat = a by omega] at this
          rw [hsel]
          exact this
        have Hgrp := hide hgrp
        have Hsel : Hid (∀ k : Nat, S.contains (k : Int) = sel k) := hide (fun k => by rw [hsel])
        have Hcon := hide (fun (k : Nat) wx (h : RdI wx (some ⟨g8, 0, none⟩) S) => contains_rd (some ⟨g8, 0, none⟩) c8 S (k : Int) wx h (by omega))
        have Hf0 := hide (fun k (hk : k < n) (h1 : G k 1 ≠ 0) wx (hx : RdF wx (some ⟨bA, oA, none⟩) n 12 (shV G T)) => find_ok (some ⟨bA, oA, none⟩) n c G T (G k 1) wx hx (by omega) ((pr G k : Nat) : Int) (by
          obtain ⟨c1, c2, _⟩ := Hs.out.par hk h1
          rw [show G k 1 = G (pr G k) 0 by rw [Hs.out.item _ (by omega)]; exact c2]
          exact firstAt_of Hs.out.ok (by omega)))
        have hinn := fun k (hk : k < n) => inn_eq (sel := sel) Hs.out hk
        have Hin := hide hinn
        have hg6 := bg6.lt
        clear hgrp hsel hinn
        go_upto_region 17 with (at_make; refine wpL_make1 (n := n) (base := w6.heap.size) rfl rfl Tryd.underlying68 bool_info rfl rfl rfl (by simp) (by simp) (by omega) (by omega) (Nat.le_refl _) ?_; intro w7 hown7 hgrow7)
        have hb67 : Below w6.heap.size w6 w7 := below_made (Below.refl _ _) (Nat.le_refl _) hgrow7
        clear hgrow7
        generalize hI : inn G sel = I at *
        have HI := hide hI
        clear hI
        obtain ⟨g15, hg15⟩ : ∃ g, g = w6.heap.size := ⟨_, rfl⟩
        have H15 := hide hg15
        rw [← hg15] at hown7 hb67
        simp only [← hg15]
        clear hg15
        have hown70 : w7.ownsRow g15 4 1 (.slice (some ⟨g15, 0, none⟩) n n) n (tabV n (fun j => .bool (decide (j < 0) && I j))) := by
          rw [tabV_congr (G := fun _ => .bool false) (fun j _ => by simp)]
          exact hown7
        clear hown7
        go_wp2_with fail
        go_loopw [112] (fun a1 wr => ∃ k : Nat, k ≤ n ∧ a1 = .int .i64 k ∧ wr.ownsRow g15 4 1 (.slice (some ⟨g15, 0, none⟩) n n) n (tabV n (fun j => .bool (decide (j < k) && I j))) ∧ Below g15 w6 wr) (fun a1 _ => n - (intOf a1).toNat)
        case atStart => exact ⟨0, by omega, rfl, hown70, hb67⟩
        case round =>
          clear hown70 hb67
          obtain ⟨k, hk, rfl, hown, hb⟩ := hrel
          by_cases hkl : k < n
          ·
            have hr7 := hr6.below (by rw [← H15.out]; exact hb)
            obtain ⟨bB, oB, hA, k0, k1, k2, k3, k4, k5, k6, k7, k8, k9, k10, k11⟩ := cells12 hr7 hkl
            injection hA with hA
            injection hA with hA hA'
            subst hA hA'
            go_upto_region 20 with fail
            have hownp := hown.alloc (.cells #[.int .i64 (G k 0), .int .i64 (G k 1), .int .i64 (G k 2), .int .i64 (G k 3), .int .i64 (G k 4), .int .i64 (G k 5), .int .i64 (G k 6), .int .i64 (G k 7), .int .i64 (G k 8), .int .i64 (G k 9), .string (T k 10), .string (T k 11)] 23)
            have bp := Blk.new wr 23 #[.int .i64 (G k 0), .int .i64 (G k 1), .int .i64 (G k 2), .int .i64 (G k 3), .int .i64 (G k 4), .int .i64 (G k 5), .int .i64 (G k 6), .int .i64 (G k 7), .int .i64 (G k 8), .int .i64 (G k 9), .string (T k 10), .string (T k 11)]
            have hgx : g15 ≤ wr.heap.size := by have := hb.size; rw [H15.out]; exact this
            have hbp := hb.alloc hgx (.cells #[.int .i64 (G k 0), .int .i64 (G k 1), .int .i64 (G k 2), .int .i64 (G k 3), .int .i64 (G k 4), .int .i64 (G k 5), .int .i64 (G k 6), .int .i64 (G k 7), .int .i64 (G k 8), .int .i64 (G k 9), .string (T k 10), .string (T k 11)] 23)
            have hb6p : Below w6.heap.size w6 (wr.alloc (.cells #[.int .i64 (G k 0), .int .i64 (G k 1), .int .i64 (G k 2), .int .i64 (G k 3), .int .i64 (G k 4), .int .i64 (G k 5), .int .i64 (G k 6), .int .i64 (G k 7), .int .i64 (G k 8), .int .i64 (G k 9), .string (T k 10), .string (T k 11)] 23)) := by rw [← H15.out]; exact hbp
            have hrp := hr6.below hb6p
            have hrip := hri6.below hb6p
            clear k0 k1 k2 k3 k4 k5 k6 k7 k8 k9 k10 k11 hown hb hr7 hb6p
            generalize wr.alloc (.cells #[.int .i64 (G k 0), .int .i64 (G k 1), .int .i64 (G k 2), .int .i64 (G k 3), .int .i64 (G k 4), .int .i64 (G k 5), .int .i64 (G k 6), .int .i64 (G k 7), .int .i64 (G k 8), .int .i64 (G k 9), .string (T k 10), .string (T k 11)] 23) = wp at *
            generalize wr.heap.size = Xb at *
            have p1 : wp.cell? ⟨Xb, 1, none⟩ = some (.int .i64 (G k 1)) := bp.cell 1
            have hcell : wp.cell? ⟨g15, k, none⟩ = some (.bool (decide (k < k) && I k)) := own_cell hownp hkl
            have hzz : wp.frozen? ⟨g15, k, none⟩ = false := hownp.frozenAt k
            have hik := Hin.out k hkl
            have hst : ∀ (wq : World) (bv : Bool), bv = I k → wq.ownsRow g15 4 1 (.slice (some ⟨g15, 0, none⟩) n n) n (tabV n (fun j => .bool (decide (j < k) && I j))) → Below g15 w6 wq → (∃ k' : Nat, k' ≤ n ∧ Value.int .i64 ((k : Int) + 1) = .int .i64 k' ∧ (wq.setCell ⟨g15, k, none⟩ (.bool bv)).ownsRow g15 4 1 (.slice (some ⟨g15, 0, none⟩) n n) n (tabV n (fun j => .bool (decide (j < k') && I j))) ∧ Below g15 w6 (wq.setCell ⟨g15, k, none⟩ (.bool bv))) := by
              intro wq bv hbv h1 h2
              refine ⟨k + 1, by omega, by simp, ?_, h2.setCell (p := ⟨g15, k, none⟩) (Nat.le_refl _) _⟩
              have h3 := own_store h1 k (.bool bv)
              rw [tabV_congr (G := fun j => .bool (decide (j < k + 1) && I j)) (fun j hj => by
                show upd (fun j => Value.bool (decide (j < k) && I j)) k (.bool bv) j = Value.bool (decide (j < k + 1) && I j)
                unfold upd
                by_cases e : j = k
                · subst e; rw [if_pos rfl, hbv]; simp
                · rw [if_neg e]; show Value.bool (decide (j < k) && I j) = _; by_cases h : j < k
                  · rw [decide_eq_true h, decide_eq_true (show j < k + 1 by omega)]
                  · rw [decide_eq_false h, decide_eq_false (show ¬ j < k + 1 by omega)])] at h3
              exact h3
            have Hst := hide hst
            clear bp hst
            cases hse : sel k with
            | true =>
              have hc1 : Calls Tryd.prog 17 #[.slice (some ⟨g8, 0, none⟩) S.length c8, .int .i64 (k : Int)] wp fun e w' => e = .returned (.bool true) ∧ w' = wp := by
                have := Hcon.out k wp hrip
                rw [Hsel.out, hse] at this
                exact this
              have Hc1 := hide hc1
              rw [hse, Bool.true_or] at hik
              have Hik := hide hik
              have Hown := hide (And.intro hownp hbp)
              clear hc1 hik hownp hbp hrp hrip hse
              go_wp2_with (go_at_call 17; refine Hc1.out.mono ?_; rintro e wq ⟨rfl, rfl⟩)
              exact ⟨Hst.out _ _ Hik.out.symm Hown.out.1 Hown.out.2, by simp only [intOf]; omega⟩
            | false =>
              have hc1 : Calls Tryd.prog 17 #[.slice (some ⟨g8, 0, none⟩) S.length c8, .int .i64 (k : Int)] wp fun e w' => e = .returned (.bool false) ∧ w' = wp := by
                have := Hcon.out k wp hrip
                rw [Hsel.out, hse] at this
                exact this
              have Hc1 := hide hc1
              rw [hse, Bool.false_or] at hik
              by_cases h1 : G k 1 = 0
              · rw [decide_eq_false (by simpa using h1), Bool.false_and] at hik
                rw [h1] at p1
                have Hik := hide hik
                have Hown := hide (And.intro hownp hbp)
                clear hc1 hik hownp hbp hrp hrip hse h1
                go_wp2_with (go_at_call 17; refine Hc1.out.mono ?_; rintro e wq ⟨rfl, rfl⟩)
                exact ⟨Hst.out _ _ Hik.out.symm Hown.out.1 Hown.out.2, by simp only [intOf]; omega⟩
              · rw [decide_eq_true h1, Bool.true_and] at hik
                obtain ⟨c1, c2, _⟩ := Hs.out.par hkl h1
                have hpn : pr G k < n := by omega
                have Hf1 := hide (Hf0.out k hkl h1 wp hrp)
                have hne : (G k 1 != 0) = true := by simpa using h1
                have Hik := hide hik
                have Hown := hide (And.intro hownp hbp)
                have pcell : ∀ wq, Below wp.heap.size wp wq → wq.cell? ⟨g15, pr G k, none⟩ = some (.bool (I (pr G k))) := fun wq hq => by
                  have h2 : wp.cell? ⟨g15, pr G k, none⟩ = some (.bool (decide (pr G k < k) && I (pr G k))) := own_cell Hown.out.1 hpn
                  rw [decide_eq_true c1, Bool.true_and] at h2
                  exact (hq.cell (World.block_lt_of_cell? _ _ h2)).trans h2
                have Hpc := hide pcell
                clear hc1 hik hownp hbp hrp hrip hse h1 pcell c2
                generalize pr G k = q at *
                go_wp2_with (go_at_call 17; refine Hc1.out.mono ?_; rintro e wq ⟨rfl, rfl⟩)
                refine Hf1.out.mono ?_
                rintro e wq2 ⟨rfl, hbq⟩
                have pc := Hpc.out _ hbq
                have oq := own_below Hown.out.1 hbq
                have cq := own_cell oq hkl
                have zq := oq.frozenAt k
                have Hoq := hide (And.intro oq (Hown.out.2.trans (hbq.mono (show g15 ≤ wq.heap.size by rw [H15.out]; exact Hown.out.2.size))))
                clear oq hbq
                go_wp2_with fail
                exact ⟨Hst.out _ _ Hik.out.symm Hoq.out.1 Hoq.out.2, by simp only [intOf]; omega⟩
          · obtain rfl : n = k := by omega
            have hb6 : Below w6.heap.size w6 wr := by rw [← H15.out]; exact hb
            have hr8 := hr6.below hb6
            have hri8 := hri6.below hb6
            have hbl8 := hbl6.trans (hb6.mono hbl6.size)
            have bg8 := bg6.below hb6 hg6
            have hinr : wr.ownsRow g15 4 1 (.slice (some ⟨g15, 0, none⟩) n n) n (tabV n (fun j => .bool (I j))) := by
              rw [← tabV_congr (F := fun j => .bool (decide (j < n) && I j)) (fun j hj => by show Value.bool (decide (j < n) && I j) = _; rw [decide_eq_true hj]; rfl)]
              exact hown
            have hcI : ∀ j, j < n → wr.cell? ⟨g15, j, none⟩ = some (.bool (I j)) := fun j hj => own_cell hinr hj
            have HcI := hide hcI
            clear hown hb hb6 hr6 hri6 hbl6 bg6 hinr hcI hkl
            obtain ⟨wb, hwb⟩ : ∃ wb, wb = wr := ⟨_, rfl⟩
            rw [← hwb] at hr8 hri8 hbl8 bg8 HcI ⊢
            clear hwb
            go_wp2_with fail
            go_loopw [19, 140] (fun a1 a2 wr => ∃ i : Nat, i ≤ n ∧ a2 = .int .i64 i ∧ wr.ownsRow wb.heap.size 23 12 a1 (restL I i).length (rowsL G sel T (G a 1) x0 y0 Wd Ht (restL I i)) ∧ Below wb.heap.size wb wr) (fun _ a2 _ => n - (intOf a2).toNat)
            case atStart => exact ⟨0, by omega, rfl, World.ownsRow_nil _ _ _ _, Below.refl _ _⟩
            case round =>
              obtain ⟨i, hi, rfl, hown, hb⟩ := hrel
              obtain ⟨A9, c9, rfl⟩ := own_form hown
              by_cases hik : i < n
              ·
                have hr9 := hr8.below hb
                have hri9 := hri8.below hb
                obtain ⟨bB, oB, hA, k0, k1, k2, k3, k4, k5, k6, k7, k8, k9, k10, k11⟩ := cells12 hr9 hik
                injection hA with hA
                injection hA with hA hA'
                subst hA hA'
                go_upto_region 26 with fail
                have hownp := hown.alloc (.cells #[.int .i64 (G i 0), .int .i64 (G i 1), .int .i64 (G i 2), .int .i64 (G i 3), .int .i64 (G i 4), .int .i64 (G i 5), .int .i64 (G i 6), .int .i64 (G i 7), .int .i64 (G i 8), .int .i64 (G i 9), .string (T i 10), .string (T i 11)] 23)
                have bp := Blk.new wr 23 #[.int .i64 (G i 0), .int .i64 (G i 1), .int .i64 (G i 2), .int .i64 (G i 3), .int .i64 (G i 4), .int .i64 (G i 5), .int .i64 (G i 6), .int .i64 (G i 7), .int .i64 (G i 8), .int .i64 (G i 9), .string (T i 10), .string (T i 11)]
                have hbp := hb.alloc hb.size (.cells #[.int .i64 (G i 0), .int .i64 (G i 1), .int .i64 (G i 2), .int .i64 (G i 3), .int .i64 (G i 4), .int .i64 (G i 5), .int .i64 (G i 6), .int .i64 (G i 7), .int .i64 (G i 8), .int .i64 (G i 9), .string (T i 10), .string (T i 11)] 23)
                have hgx : wb.heap.size ≤ wr.heap.size := hb.size
                have hrip := hri9.alloc (.cells #[.int .i64 (G i 0), .int .i64 (G i 1), .int .i64 (G i 2), .int .i64 (G i 3), .int .i64 (G i 4), .int .i64 (G i 5), .int .i64 (G i 6), .int .i64 (G i 7), .int .i64 (G i 8), .int .i64 (G i 9), .string (T i 10), .string (T i 11)] 23)
                have bgp := (bg8.below hb bg8.lt).alloc (.cells #[.int .i64 (G i 0), .int .i64 (G i 1), .int .i64 (G i 2), .int .i64 (G i 3), .int .i64 (G i 4), .int .i64 (G i 5), .int .i64 (G i 6), .int .i64 (G i 7), .int .i64 (G i 8), .int .i64 (G i 9), .string (T i 10), .string (T i 11)] 23)
                have hip : (wr.alloc (.cells #[.int .i64 (G i 0), .int .i64 (G i 1), .int .i64 (G i 2), .int .i64 (G i 3), .int .i64 (G i 4), .int .i64 (G i 5), .int .i64 (G i 6), .int .i64 (G i 7), .int .i64 (G i 8), .int .i64 (G i 9), .string (T i 10), .string (T i 11)] 23)).cell? ⟨g15, i, none⟩ = some (.bool (I i)) := (hbp.cell (p := ⟨g15, i, none⟩) (World.block_lt_of_cell? _ _ (HcI.out i hik))).trans (HcI.out i hik)
                have hgne : g14 ≠ wr.heap.size := by have := bg8.lt; omega
                have hXo : some wr.heap.size ≠ (Value.slice A9 (restL I i).length c9).ownBlock := fun hh => by have := (hown.lt _ hh.symm).2; omega
                have hrl : (restL I i).length ≤ 10 := by
                  have h1 := rest_len (I := I) i
                  have h2 : ∀ j, cntI I j ≤ j := fun j => by
                    induction j with
                    | zero => exact Nat.le_refl _
                    | succ j ih => show cntI I j + _ ≤ _; split <;> omega
                  have := h2 i
                  omega
                clear k0 k1 k2 k3 k4 k5 k6 k7 k8 k9 k10 k11 hown hb hr9 hri9
                generalize wr.alloc (.cells #[.int .i64 (G i 0), .int .i64 (G i 1), .int .i64 (G i 2), .int .i64 (G i 3), .int .i64 (G i 4), .int .i64 (G i 5), .int .i64 (G i 6), .int .i64 (G i 7), .int .i64 (G i 8), .int .i64 (G i 9), .string (T i 10), .string (T i 11)] 23) = wp at *
                generalize wr.heap.size = Xb at *
                cases hse : sel i with
                | true =>
                  have hc1 : Calls Tryd.prog 17 #[.slice (some ⟨g8, 0, none⟩) S.length c8, .int .i64 (i : Int)] wp fun e w' => e = .returned (.bool true) ∧ w' = wp := by
                    have := Hcon.out i wp hrip
                    rw [Hsel.out, hse] at this
                    exact this
                  have Hc1 := hide hc1
                  have hIi : I i = true := by rw [← HI.out]; exact inn_sel Hs.out hik hse
                  have Hr : Hid (restL I (i + 1) = restL I i ++ [some i]) := hide (by show restL I i ++ _ = _; rw [if_pos hIi])
                  have Hrow : Hid ((List.range 12).map (rcV G sel T (G a 1) x0 y0 Wd Ht (some i)) = [.int .i64 (G i 0), .int .i64 77, .int .i64 (G i 2), .int .i64 (G i 3 - x0), .int .i64 (G i 4 - y0), .int .i64 (G i 5), .int .i64 (G i 6), .int .i64 (G i 7), .int .i64 (G i 8), .int .i64 (G i 9), .string (T i 10), .string (T i 11)]) := hide (by
                    have : ∀ j, coV G sel 77 (G a 1) x0 y0 Wd Ht (some i) j = mvV G 77 x0 y0 i j := fun j => by show (if sel i then _ else _) = _; rw [hse]; rfl
                    simp [List.range_succ, rcV, this, mvV, coT])
                  have p3 : wp.cell? ⟨Xb, 3, none⟩ = some (.int .i64 (G i 3)) := bp.cell 3
                  have p4 : wp.cell? ⟨Xb, 4, none⟩ = some (.int .i64 (G i 4)) := bp.cell 4
                  have q3 : wp.cell? ⟨g14, 3, none⟩ = some (.int .i64 x0) := bgp.cell 3
                  have q4 : wp.cell? ⟨g14, 4, none⟩ = some (.int .i64 y0) := bgp.cell 4
                  have p1 : wp.cell? ⟨Xb, 1, none⟩ = some (.int .i64 (G i 1)) := bp.cell 1
                  have z1 : wp.frozen? ⟨Xb, 1, none⟩ = false := bp.frozen 1
                  have z3 : wp.frozen? ⟨Xb, 3, none⟩ = false := bp.frozen 3
                  have z4 : wp.frozen? ⟨Xb, 4, none⟩ = false := bp.frozen 4
                  have gxy := Hs.out.xy i hik
                  have fx := hfo.x
                  have fy := hfo.y
                  have v3 : IntKind.i64.wrap (G i 3 - x0) = G i 3 - x0 := IntWalk.i64_in _ (by omega)
                  have v4 : IntKind.i64.wrap (G i 4 - y0) = G i 4 - y0 := IntWalk.i64_in _ (by omega)
                  have hgn2 : Xb ≠ g14 := fun hh => hgne hh.symm
                  clear hc1 hrip hIi hip
                  go_upto_region 27 with (go_at_call 17; refine Hc1.out.mono ?_; rintro e wq ⟨rfl, rfl⟩)
                  refine wp_region_listed (S := fun l w' => (l.getD 14 true = false → w'.cell? ⟨Xb, 3, none⟩ = some (.int .i64 (G i 3))) ∧ (l.getD 16 true = false → w'.cell? ⟨Xb, 4, none⟩ = some (.int .i64 (G i 4))) ∧ w'.cell? ⟨g14, 3, none⟩ = some (.int .i64 x0) ∧ w'.cell? ⟨g14, 4, none⟩ = some (.int .i64 y0)) (by kernel_rfl) ?hSL (fun hHeld => ?_)
                  case hSL => exact ⟨fun _ => p3, fun _ => p4, q3, q4⟩
                  refine wpAnyL_take (i := 0) (v := ?vLn0) rfl (by kernel_rfl) (by kernel_rfl) (by kernel_rfl) (by kernel_rfl) (fun _ _ _ h => h) ?hsLn0 (Or.inl ⟨by rfl, ?hyLn0⟩) (by assumption) (fun hHeld => ?_)
                  case hsLn0 => (intro l w; (try dsimp only); simp only [Go.getD_set_ne true (show (0 : Nat) ≠ 14 by decide), Go.getD_set_ne true (show (0 : Nat) ≠ 16 by decide)])
                  case hyLn0 => (intro w hSw; obtain ⟨l, hl, hc, hSw⟩ := hSw; (try dsimp only at hSw); obtain ⟨cL0, cL1, cL2, cL3⟩ := hSw; clear hc hl; go_simp; try with_reducible rfl)
                  try simp only [Act.put, List.getElem_toArray, List.getElem_cons_zero, List.getElem_cons_succ, List.setIfInBounds_toArray, List.set_cons_zero, List.set_cons_succ]
                  refine wpAnyL_take (i := 1) (v := ?vLn1) rfl (by kernel_rfl) (by kernel_rfl) (by kernel_rfl) (by kernel_rfl) (fun _ _ _ h => h) ?hsLn1 (Or.inl ⟨by rfl, ?hyLn1⟩) (by assumption) (fun hHeld => ?_)
                  case hsLn1 => (intro l w; (try dsimp only); simp only [Go.getD_set_ne true (show (1 : Nat) ≠ 14 by decide), Go.getD_set_ne true (show (1 : Nat) ≠ 16 by decide)])
                  case hyLn1 => (intro w hSw; obtain ⟨l, hl, hc, hSw⟩ := hSw; (try dsimp only at hSw); obtain ⟨cL0, cL1, cL2, cL3⟩ := hSw; clear hc hl; go_simp; try with_reducible rfl)
                  try simp only [Act.put, List.getElem_toArray, List.getElem_cons_zero, List.getElem_cons_succ, List.setIfInBounds_toArray, List.set_cons_zero, List.set_cons_succ]
                  refine wpAnyL_take (i := 2) (v := ?vLn2) rfl (by kernel_rfl) (by kernel_rfl) (by kernel_rfl) (by kernel_rfl) (fun _ _ _ h => h) ?hsLn2 (Or.inl ⟨by rfl, ?hyLn2⟩) (by assumption) (fun hHeld => ?_)
                  case hsLn2 => (intro l w; (try dsimp only); simp only [Go.getD_set_ne true (show (2 : Nat) ≠ 14 by decide), Go.getD_set_ne true (show (2 : Nat) ≠ 16 by decide)])
                  case hyLn2 => (intro w hSw; obtain ⟨l, hl, hc, hSw⟩ := hSw; (try dsimp only at hSw); obtain ⟨cL0, cL1, cL2, cL3⟩ := hSw; replace cL0 := cL0 (hc.waits 24 (by decide +kernel) hl); clear hc hl; go_simp; try with_reducible rfl)
                  try simp only [Act.put, List.getElem_toArray, List.getElem_cons_zero, List.getElem_cons_succ, List.setIfInBounds_toArray, List.set_cons_zero, List.set_cons_succ]
                  refine wpAnyL_take (i := 3) (v := ?vLn3) rfl (by kernel_rfl) (by kernel_rfl) (by kernel_rfl) (by kernel_rfl) (fun _ _ _ h => h) ?hsLn3 (Or.inl ⟨by rfl, ?hyLn3⟩) (by assumption) (fun hHeld => ?_)
                  case hsLn3 => (intro l w; (try dsimp only); simp only [Go.getD_set_ne true (show (3 : Nat) ≠ 14 by decide), Go.getD_set_ne true (show (3 : Nat) ≠ 16 by decide)])
                  case hyLn3 => (intro w hSw; obtain ⟨l, hl, hc, hSw⟩ := hSw; (try dsimp only at hSw); obtain ⟨cL0, cL1, cL2, cL3⟩ := hSw; clear hc hl; go_simp; try with_reducible rfl)
                  try simp only [Act.put, List.getElem_toArray, List.getElem_cons_zero, List.getElem_cons_succ, List.setIfInBounds_toArray, List.set_cons_zero, List.set_cons_succ]
                  refine wpAnyL_take (i := 4) (v := ?vLn4) rfl (by kernel_rfl) (by kernel_rfl) (by kernel_rfl) (by kernel_rfl) (fun _ _ _ h => h) ?hsLn4 (Or.inl ⟨by rfl, ?hyLn4⟩) (by assumption) (fun hHeld => ?_)
                  case hsLn4 => (intro l w; (try dsimp only); simp only [Go.getD_set_ne true (show (4 : Nat) ≠ 14 by decide), Go.getD_set_ne true (show (4 : Nat) ≠ 16 by decide)])
                  case hyLn4 => (intro w hSw; obtain ⟨l, hl, hc, hSw⟩ := hSw; (try dsimp only at hSw); obtain ⟨cL0, cL1, cL2, cL3⟩ := hSw; clear hc hl; go_simp; try with_reducible rfl)
                  try simp only [Act.put, List.getElem_toArray, List.getElem_cons_zero, List.getElem_cons_succ, List.setIfInBounds_toArray, List.set_cons_zero, List.set_cons_succ]
                  refine wpAnyL_take (i := 5) (v := ?vLn5) rfl (by kernel_rfl) (by kernel_rfl) (by kernel_rfl) (by kernel_rfl) (fun _ _ _ h => h) ?hsLn5 (Or.inl ⟨by rfl, ?hyLn5⟩) (by assumption) (fun hHeld => ?_)
                  case hsLn5 => (intro l w; (try dsimp only); simp only [Go.getD_set_ne true (show (5 : Nat) ≠ 14 by decide), Go.getD_set_ne true (show (5 : Nat) ≠ 16 by decide)])
                  case hyLn5 => (intro w hSw; obtain ⟨l, hl, hc, hSw⟩ := hSw; (try dsimp only at hSw); obtain ⟨cL0, cL1, cL2, cL3⟩ := hSw; clear hc hl; go_simp; try with_reducible rfl)
                  try simp only [Act.put, List.getElem_toArray, List.getElem_cons_zero, List.getElem_cons_succ, List.setIfInBounds_toArray, List.set_cons_zero, List.set_cons_succ]
                  refine wpAnyL_take (i := 6) (v := ?vLn6) rfl (by kernel_rfl) (by kernel_rfl) (by kernel_rfl) (by kernel_rfl) (fun _ _ _ h => h) ?hsLn6 (Or.inl ⟨by rfl, ?hyLn6⟩) (by assumption) (fun hHeld => ?_)
                  case hsLn6 => (intro l w; (try dsimp only); simp only [Go.getD_set_ne true (show (6 : Nat) ≠ 14 by decide), Go.getD_set_ne true (show (6 : Nat) ≠ 16 by decide)])
                  case hyLn6 => (intro w hSw; obtain ⟨l, hl, hc, hSw⟩ := hSw; (try dsimp only at hSw); obtain ⟨cL0, cL1, cL2, cL3⟩ := hSw; clear hc hl; go_simp; try with_reducible rfl)
                  try simp only [Act.put, List.getElem_toArray, List.getElem_cons_zero, List.getElem_cons_succ, List.setIfInBounds_toArray, List.set_cons_zero, List.set_cons_succ]
                  refine wpAnyL_take (i := 7) (v := ?vLn7) rfl (by kernel_rfl) (by kernel_rfl) (by kernel_rfl) (by kernel_rfl) (fun _ _ _ h => h) ?hsLn7 (Or.inl ⟨by rfl, ?hyLn7⟩) (by assumption) (fun hHeld => ?_)
                  case hsLn7 => (intro l w; (try dsimp only); simp only [Go.getD_set_ne true (show (7 : Nat) ≠ 14 by decide), Go.getD_set_ne true (show (7 : Nat) ≠ 16 by decide)])
                  case hyLn7 => (intro w hSw; obtain ⟨l, hl, hc, hSw⟩ := hSw; (try dsimp only at hSw); obtain ⟨cL0, cL1, cL2, cL3⟩ := hSw; replace cL1 := cL1 (hc.waits 24 (by decide +kernel) hl); clear hc hl; go_simp; try with_reducible rfl)
                  try simp only [Act.put, List.getElem_toArray, List.getElem_cons_zero, List.getElem_cons_succ, List.setIfInBounds_toArray, List.set_cons_zero, List.set_cons_succ]
                  refine wpAnyL_take (i := 8) (v := ?vLn8) rfl (by kernel_rfl) (by kernel_rfl) (by kernel_rfl) (by kernel_rfl) (fun _ _ _ h => h) ?hsLn8 (Or.inl ⟨by rfl, ?hyLn8⟩) (by assumption) (fun hHeld => ?_)
                  case hsLn8 => (intro l w; (try dsimp only); simp only [Go.getD_set_ne true (show (8 : Nat) ≠ 14 by decide), Go.getD_set_ne true (show (8 : Nat) ≠ 16 by decide)])
                  case hyLn8 => (intro w hSw; obtain ⟨l, hl, hc, hSw⟩ := hSw; (try dsimp only at hSw); obtain ⟨cL0, cL1, cL2, cL3⟩ := hSw; clear hc hl; go_simp; try with_reducible rfl)
                  try simp only [Act.put, List.getElem_toArray, List.getElem_cons_zero, List.getElem_cons_succ, List.setIfInBounds_toArray, List.set_cons_zero, List.set_cons_succ]
                  refine wpAnyL_take (i := 9) (v := ?vLn9) rfl (by kernel_rfl) (by kernel_rfl) (by kernel_rfl) (by kernel_rfl) (fun _ _ _ h => h) ?hsLn9 (Or.inl ⟨by rfl, ?hyLn9⟩) (by assumption) (fun hHeld => ?_)
                  case hsLn9 => (intro l w; (try dsimp only); simp only [Go.getD_set_ne true (show (9 : Nat) ≠ 14 by decide), Go.getD_set_ne true (show (9 : Nat) ≠ 16 by decide)])
                  case hyLn9 => (intro w hSw; obtain ⟨l, hl, hc, hSw⟩ := hSw; (try dsimp only at hSw); obtain ⟨cL0, cL1, cL2, cL3⟩ := hSw; clear hc hl; go_simp; try with_reducible rfl)
                  try simp only [Act.put, List.getElem_toArray, List.getElem_cons_zero, List.getElem_cons_succ, List.setIfInBounds_toArray, List.set_cons_zero, List.set_cons_succ]
                  refine wpAnyL_take (i := 10) (v := ?vLn10) rfl (by kernel_rfl) (by kernel_rfl) (by kernel_rfl) (by kernel_rfl) (fun _ _ _ h => h) ?hsLn10 (Or.inl ⟨by rfl, ?hyLn10⟩) (by assumption) (fun hHeld => ?_)
                  case hsLn10 => (intro l w; (try dsimp only); simp only [Go.getD_set_ne true (show (10 : Nat) ≠ 14 by decide), Go.getD_set_ne true (show (10 : Nat) ≠ 16 by decide)])
                  case hyLn10 => (intro w hSw; obtain ⟨l, hl, hc, hSw⟩ := hSw; (try dsimp only at hSw); obtain ⟨cL0, cL1, cL2, cL3⟩ := hSw; clear hc hl; go_simp; try with_reducible rfl)
                  try simp only [Act.put, List.getElem_toArray, List.getElem_cons_zero, List.getElem_cons_succ, List.setIfInBounds_toArray, List.set_cons_zero, List.set_cons_succ]
                  refine wpAnyL_take (i := 11) (v := ?vLn11) rfl (by kernel_rfl) (by kernel_rfl) (by kernel_rfl) (by kernel_rfl) (fun _ _ _ h => h) ?hsLn11 (Or.inl ⟨by rfl, ?hyLn11⟩) (by assumption) (fun hHeld => ?_)
                  case hsLn11 => (intro l w; (try dsimp only); simp only [Go.getD_set_ne true (show (11 : Nat) ≠ 14 by decide), Go.getD_set_ne true (show (11 : Nat) ≠ 16 by decide)])
                  case hyLn11 => (intro w hSw; obtain ⟨l, hl, hc, hSw⟩ := hSw; (try dsimp only at hSw); obtain ⟨cL0, cL1, cL2, cL3⟩ := hSw; clear hc hl; go_simp; try with_reducible rfl)
                  try simp only [Act.put, List.getElem_toArray, List.getElem_cons_zero, List.getElem_cons_succ, List.setIfInBounds_toArray, List.set_cons_zero, List.set_cons_succ]
                  refine wpAnyL_ready (rs := [12]) (by kernel_rfl) (by simp) (AllReadyL.cons rfl (fun K hK => ?_) AllReadyL.nil)
                  go_simp
                  refine hK.out _ _ ?hkLn12 (fun hHeld => ?_)
                  case hkLn12 => first | (go_keep; done) | (refine ⟨?_, ?_, ?_, ?_⟩ <;> first | (go_keep; done) | (intro h; first | exact absurd h (by decide) | (go_keep; done) | ((try refine cell_drew ?_); (repeat (refine cell_other ?_ (by decide))); assumption)) | ((try refine cell_drew ?_); (repeat (refine cell_other ?_ (by decide))); assumption))
                  clear hK K
                  try simp only [Act.put, List.getElem_toArray, List.getElem_cons_zero, List.getElem_cons_succ, List.setIfInBounds_toArray, List.set_cons_zero, List.set_cons_succ]
                  refine wpAnyL_take (i := 13) (v := ?vLn13) rfl (by kernel_rfl) (by kernel_rfl) (by kernel_rfl) (by kernel_rfl) (fun _ _ _ h => h) ?hsLn13 (Or.inl ⟨by rfl, ?hyLn13⟩) (by assumption) (fun hHeld => ?_)
                  case hsLn13 => (intro l w; (try dsimp only); simp only [Go.getD_set_ne true (show (13 : Nat) ≠ 14 by decide), Go.getD_set_ne true (show (13 : Nat) ≠ 16 by decide)])
                  case hyLn13 => (intro w hSw; obtain ⟨l, hl, hc, hSw⟩ := hSw; (try dsimp only at hSw); obtain ⟨cL0, cL1, cL2, cL3⟩ := hSw; clear hc hl; go_simp; try with_reducible rfl)
                  try simp only [Act.put, List.getElem_toArray, List.getElem_cons_zero, List.getElem_cons_succ, List.setIfInBounds_toArray, List.set_cons_zero, List.set_cons_succ]
                  refine wpAnyL_ready (rs := [14]) (by kernel_rfl) (by simp) (AllReadyL.cons rfl (fun K hK => ?_) AllReadyL.nil)
                  go_simp
                  refine hK.out _ _ ?hkLn14 (fun hHeld => ?_)
                  case hkLn14 => first | (go_keep; done) | (refine ⟨?_, ?_, ?_, ?_⟩ <;> first | (go_keep; done) | (intro h; first | exact absurd h (by decide) | (go_keep; done) | ((try refine cell_drew ?_); (repeat (refine cell_other ?_ (by decide))); assumption)) | ((try refine cell_drew ?_); (repeat (refine cell_other ?_ (by decide))); assumption))
                  clear hK K
                  try simp only [Act.put, List.getElem_toArray, List.getElem_cons_zero, List.getElem_cons_succ, List.setIfInBounds_toArray, List.set_cons_zero, List.set_cons_succ]
                  refine wpAnyL_take (i := 15) (v := ?vLn15) rfl (by kernel_rfl) (by kernel_rfl) (by kernel_rfl) (by kernel_rfl) (fun _ _ _ h => h) ?hsLn15 (Or.inl ⟨by rfl, ?hyLn15⟩) (by assumption) (fun hHeld => ?_)
                  case hsLn15 => (intro l w; (try dsimp only); simp only [Go.getD_set_ne true (show (15 : Nat) ≠ 14 by decide), Go.getD_set_ne true (show (15 : Nat) ≠ 16 by decide)])
                  case hyLn15 => (intro w hSw; obtain ⟨l, hl, hc, hSw⟩ := hSw; (try dsimp only at hSw); obtain ⟨cL0, cL1, cL2, cL3⟩ := hSw; clear hc hl; go_simp; try with_reducible rfl)
                  try simp only [Act.put, List.getElem_toArray, List.getElem_cons_zero, List.getElem_cons_succ, List.setIfInBounds_toArray, List.set_cons_zero, List.set_cons_succ]
                  refine wpAnyL_ready (rs := [16]) (by kernel_rfl) (by simp) (AllReadyL.cons rfl (fun K hK => ?_) AllReadyL.nil)
                  go_simp
                  refine hK.out _ _ ?hkLn16 (fun hHeld => ?_)
                  case hkLn16 => first | (go_keep; done) | (refine ⟨?_, ?_, ?_, ?_⟩ <;> first | (go_keep; done) | (intro h; first | exact absurd h (by decide) | (go_keep; done) | ((try refine cell_drew ?_); (repeat (refine cell_other ?_ (by decide))); assumption)) | ((try refine cell_drew ?_); (repeat (refine cell_other ?_ (by decide))); assumption))
                  clear hK K
                  try simp only [Act.put, List.getElem_toArray, List.getElem_cons_zero, List.getElem_cons_succ, List.setIfInBounds_toArray, List.set_cons_zero, List.set_cons_succ]
                  refine wpAnyL_done (by kernel_rfl) ?_ _
                  go_upto_region 28 with fail
                  have bz : Blk (((wq.setCell ⟨Xb, 1, none⟩ (.int .i64 77)).setCell ⟨Xb, 3, none⟩ (.int .i64 (G i 3 - x0))).setCell ⟨Xb, 4, none⟩ (.int .i64 (G i 4 - y0))).drew Xb 23 #[.int .i64 (G i 0), .int .i64 77, .int .i64 (G i 2), .int .i64 (G i 3 - x0), .int .i64 (G i 4 - y0), .int .i64 (G i 5), .int .i64 (G i 6), .int .i64 (G i 7), .int .i64 (G i 8), .int .i64 (G i 9), .string (T i 10), .string (T i 11)] := (blk_cells (by simp) (((bp.set_ 1 (.int .i64 77)).set_ 3 (.int .i64 (G i 3 - x0))).set_ 4 (.int .i64 (G i 4 - y0)))).drewN 1
                  have ownz : (((wq.setCell ⟨Xb, 1, none⟩ (.int .i64 77)).setCell ⟨Xb, 3, none⟩ (.int .i64 (G i 3 - x0))).setCell ⟨Xb, 4, none⟩ (.int .i64 (G i 4 - y0))).drew.ownsRow wb.heap.size 23 12 (.slice A9 (restL I i).length c9) (restL I i).length (rowsL G sel T (G a 1) x0 y0 Wd Ht (restL I i)) := own_drewN (ownsRow_setCell_other (ownsRow_setCell_other (ownsRow_setCell_other hownp (a := ⟨Xb, 1, none⟩) (fun hh => hXo hh.symm) _) (a := ⟨Xb, 3, none⟩) (fun hh => hXo hh.symm) _) (a := ⟨Xb, 4, none⟩) (fun hh => hXo hh.symm) _) 1
                  have hbz : Below wb.heap.size wb (((wq.setCell ⟨Xb, 1, none⟩ (.int .i64 77)).setCell ⟨Xb, 3, none⟩ (.int .i64 (G i 3 - x0))).setCell ⟨Xb, 4, none⟩ (.int .i64 (G i 4 - y0))).drew := below_drewN (((hbp.setCell (p := ⟨Xb, 1, none⟩) hgx _).setCell (p := ⟨Xb, 3, none⟩) hgx _).setCell (p := ⟨Xb, 4, none⟩) hgx _) 1
                  clear hHeld bp hownp hbp bgp p1 p3 p4 q3 q4 z1 z3 z4 v3 v4 Hc1
                  generalize (((wq.setCell ⟨Xb, 1, none⟩ (.int .i64 77)).setCell ⟨Xb, 3, none⟩ (.int .i64 (G i 3 - x0))).setCell ⟨Xb, 4, none⟩ (.int .i64 (G i 4 - y0))).drew = wz at *
                  have m0 : wz.cell? ⟨Xb, 0, none⟩ = some (.int .i64 (G i 0)) := bz.cell 0
                  have m1 : wz.cell? ⟨Xb, 1, none⟩ = some (.int .i64 77) := bz.cell 1
                  have m2 : wz.cell? ⟨Xb, 2, none⟩ = some (.int .i64 (G i 2)) := bz.cell 2
                  have m3 : wz.cell? ⟨Xb, 3, none⟩ = some (.int .i64 (G i 3 - x0)) := bz.cell 3
                  have m4 : wz.cell? ⟨Xb, 4, none⟩ = some (.int .i64 (G i 4 - y0)) := bz.cell 4
                  have m5 : wz.cell? ⟨Xb, 5, none⟩ = some (.int .i64 (G i 5)) := bz.cell 5
                  have m6 : wz.cell? ⟨Xb, 6, none⟩ = some (.int .i64 (G i 6)) := bz.cell 6
                  have m7 : wz.cell? ⟨Xb, 7, none⟩ = some (.int .i64 (G i 7)) := bz.cell 7
                  have m8 : wz.cell? ⟨Xb, 8, none⟩ = some (.int .i64 (G i 8)) := bz.cell 8
                  have m9 : wz.cell? ⟨Xb, 9, none⟩ = some (.int .i64 (G i 9)) := bz.cell 9
                  have m10 : wz.cell? ⟨Xb, 10, none⟩ = some (.string (T i 10)) := bz.cell 10
                  have m11 : wz.cell? ⟨Xb, 11, none⟩ = some (.string (T i 11)) := bz.cell 11
                  go_wp2_with (at_builtin; refine wpL_append rfl rfl Tryd.underlying25 shape_info rfl (by decide) rfl rfl (ownz.alloc _) (news_at _ _ _ _ (by simp)) rfl (by simp [Value.oneCell']) (by omega) (by omega) (by have := hbz.size; simp; omega) ?_; intro v5 w5 hown5 hgrow5)
                  have hrow5 : w5.ownsRow wb.heap.size 23 12 v5 (restL I (i + 1)).length (rowsL G sel T (G a 1) x0 y0 Wd Ht (restL I (i + 1))) := by
                    rw [Hr.out, List.length_append, rowsL_push, Hrow.out]
                    exact hown5
                  exact ⟨⟨i + 1, by omega, by simp, hrow5, below_app (hbz.alloc hbz.size _) (by have := hbz.size; simp; omega) (ownz.alloc _) hgrow5⟩, by simp only [intOf]; omega⟩
                | false =>
                  have hc1 : Calls Tryd.prog 17 #[.slice (some ⟨g8, 0, none⟩) S.length c8, .int .i64 (i : Int)] wp fun e w' => e = .returned (.bool false) ∧ w' = wp := by
                    have := Hcon.out i wp hrip
                    rw [Hsel.out, hse] at this
                    exact this
                  have Hc1 := hide hc1
                  clear hc1 hrip
                  cases hIi : I i with
                  | true =>
                    rw [hIi] at hip
                    have Hr : Hid (restL I (i + 1) = restL I i ++ [some i]) := hide (by show restL I i ++ _ = _; rw [if_pos hIi])
                    have Hrow : Hid ((List.range 12).map (rcV G sel T (G a 1) x0 y0 Wd Ht (some i)) = [.int .i64 (G i 0), .int .i64 (G i 1), .int .i64 (G i 2), .int .i64 (G i 3), .int .i64 (G i 4), .int .i64 (G i 5), .int .i64 (G i 6), .int .i64 (G i 7), .int .i64 (G i 8), .int .i64 (G i 9), .string (T i 10), .string (T i 11)]) := hide (by
                      have : ∀ j, coV G sel 77 (G a 1) x0 y0 Wd Ht (some i) j = G i j := fun j => by show (if sel i then _ else _) = _; rw [hse]; rfl
                      simp [List.range_succ, rcV, this, coT])
                    have bz := bp
                    have ownz := hownp
                    have hbz := hbp
                    clear bp hownp hbp bgp hIi
                    go_upto_region 30 with (go_at_call 17; refine Hc1.out.mono ?_; rintro e wq ⟨rfl, rfl⟩)
                    have m0 : wq.cell? ⟨Xb, 0, none⟩ = some (.int .i64 (G i 0)) := bz.cell 0
                    have m1 : wq.cell? ⟨Xb, 1, none⟩ = some (.int .i64 (G i 1)) := bz.cell 1
                    have m2 : wq.cell? ⟨Xb, 2, none⟩ = some (.int .i64 (G i 2)) := bz.cell 2
                    have m3 : wq.cell? ⟨Xb, 3, none⟩ = some (.int .i64 (G i 3)) := bz.cell 3
                    have m4 : wq.cell? ⟨Xb, 4, none⟩ = some (.int .i64 (G i 4)) := bz.cell 4
                    have m5 : wq.cell? ⟨Xb, 5, none⟩ = some (.int .i64 (G i 5)) := bz.cell 5
                    have m6 : wq.cell? ⟨Xb, 6, none⟩ = some (.int .i64 (G i 6)) := bz.cell 6
                    have m7 : wq.cell? ⟨Xb, 7, none⟩ = some (.int .i64 (G i 7)) := bz.cell 7
                    have m8 : wq.cell? ⟨Xb, 8, none⟩ = some (.int .i64 (G i 8)) := bz.cell 8
                    have m9 : wq.cell? ⟨Xb, 9, none⟩ = some (.int .i64 (G i 9)) := bz.cell 9
                    have m10 : wq.cell? ⟨Xb, 10, none⟩ = some (.string (T i 10)) := bz.cell 10
                    have m11 : wq.cell? ⟨Xb, 11, none⟩ = some (.string (T i 11)) := bz.cell 11
                    go_wp2_with (at_builtin; refine wpL_append rfl rfl Tryd.underlying25 shape_info rfl (by decide) rfl rfl (ownz.alloc _) (news_at _ _ _ _ (by simp)) rfl (by simp [Value.oneCell']) (by omega) (by omega) (by have := hbz.size; simp; omega) ?_; intro v5 w5 hown5 hgrow5)
                    have hrow5 : w5.ownsRow wb.heap.size 23 12 v5 (restL I (i + 1)).length (rowsL G sel T (G a 1) x0 y0 Wd Ht (restL I (i + 1))) := by
                      rw [Hr.out, List.length_append, rowsL_push, Hrow.out]
                      exact hown5
                    exact ⟨⟨i + 1, by omega, by simp, hrow5, below_app (hbz.alloc hbz.size _) (by have := hbz.size; simp; omega) (ownz.alloc _) hgrow5⟩, by simp only [intOf]; omega⟩
                  | false =>
                    rw [hIi] at hip
                    have Hr : Hid (restL I (i + 1) = restL I i) := hide (by show restL I i ++ _ = _; rw [hIi]; simp)
                    have Hown := hide (And.intro hownp hbp)
                    clear bp hownp hbp bgp hIi
                    go_wp2_with (go_at_call 17; refine Hc1.out.mono ?_; rintro e wq ⟨rfl, rfl⟩)
                    exact ⟨⟨i + 1, by omega, by simp, by rw [Hr.out]; exact Hown.out.1, Hown.out.2⟩, by simp only [intOf]; omega⟩
              · obtain rfl : n = i := by omega
                have hr9 := hr8.below hb
                have hri9 := hri8.below hb
                have hbl9 := hbl8.trans (hb.mono hbl8.size)
                have bg9 := bg8.below hb bg8.lt
                have hcI9 : ∀ j, j < n → wr.cell? ⟨g15, j, none⟩ = some (.bool (I j)) := fun j hj => (hb.cell (p := ⟨g15, j, none⟩) (World.block_lt_of_cell? _ _ (HcI.out j hj))).trans (HcI.out j hj)
                have HcI9 := hide hcI9
                have hIa : I a = true := by rw [← HI.out]; exact inn_sel Hs.out han Hgrp.out.at_
                have hrm : some a ∈ restL I n := (rest_mem (I := I) n (some a)).2 ⟨a, han, hIa, rfl⟩
                have hrp : 0 < (restL I n).length := List.length_pos_of_mem hrm
                have hrl : (restL I n).length ≤ 10 := by
                  have h1 := rest_len (I := I) n
                  have h2 : ∀ j, cntI I j ≤ j := fun j => by
                    induction j with
                    | zero => exact Nat.le_refl _
                    | succ j ih => show cntI I j + _ ≤ _; split <;> omega
                  have := h2 n
                  omega
                obtain ⟨g9, rfl, _⟩ := own_at hown hrp
                have HIa := hide hIa
                clear HcI hcI9 hb hr8 hri8 hbl8 bg8 hrm hik hIa
                obtain ⟨wc, hwc⟩ : ∃ wc, wc = wr := ⟨_, rfl⟩
                rw [← hwc] at hr9 hri9 hbl9 bg9 HcI9 hown ⊢
                clear hwc
                have Hrest := hide hown
                clear hown
                have hol := fun (j : Nat) (hj : j ≤ n) => out_len (I := I) (a := a) (n := n) (fun i hi => by rw [← HI.out]; exact Hgrp.out.out hi) j hj
                have Hol := hide (fun (j : Nat) (hj : j ≤ n) => (show (outL I a n j).length ≤ 30 by
                  have h1 := hol j hj
                  have h2 := rest_len (I := I) n
                  split at h1 <;> omega))
                clear hol
                go_wp2_with fail
                go_loopw [18, 179] (fun a1 a2 wr => ∃ i : Nat, i ≤ n ∧ a2 = .int .i64 i ∧ wr.ownsRow wc.heap.size 23 12 a1 (outL I a n i).length (rowsL G sel T (G a 1) x0 y0 Wd Ht (outL I a n i)) ∧ Below wc.heap.size wc wr) (fun _ a2 _ => n - (intOf a2).toNat)
                case atStart => exact ⟨0, by omega, rfl, World.ownsRow_nil _ _ _ _, Below.refl _ _⟩
                case round =>
                  obtain ⟨i, hi, rfl, hown, hb⟩ := hrel
                  obtain ⟨A7, c7, rfl⟩ := own_form hown
                  by_cases hik : i < n
                  · have hr10 := hr9.below hb
                    have hri10 := hri9.below hb
                    have s0 : wr.cell? ⟨g8, 0, none⟩ = some (.int .i64 (a : Int)) := by
                      have := hri10.get (k := 0) hp0
                      rw [Nat.zero_add, ha] at this
                      exact this
                    obtain ⟨bB, oB, hA, k0, k1, k2, k3, k4, k5, k6, k7, k8, k9, k10, k11⟩ := cells12 hr10 hik
                    injection hA with hA
                    injection hA with hA hA'
                    subst hA hA'
                    have hl1 := Hol.out i hi
                    have Hou : Hid (outL I a n (i + 1) = outL I a n i ++ ((if i = a then none :: restL I n else []) ++ if I i then [] else [some i])) := hide rfl
                    go_upto_region 35 with fail
                    have hownp := hown.alloc (.cells #[.int .i64 (G i 0), .int .i64 (G i 1), .int .i64 (G i 2), .int .i64 (G i 3), .int .i64 (G i 4), .int .i64 (G i 5), .int .i64 (G i 6), .int .i64 (G i 7), .int .i64 (G i 8), .int .i64 (G i 9), .string (T i 10), .string (T i 11)] 23)
                    have bp := Blk.new wr 23 #[.int .i64 (G i 0), .int .i64 (G i 1), .int .i64 (G i 2), .int .i64 (G i 3), .int .i64 (G i 4), .int .i64 (G i 5), .int .i64 (G i 6), .int .i64 (G i 7), .int .i64 (G i 8), .int .i64 (G i 9), .string (T i 10), .string (T i 11)]
                    have hbp := hb.alloc hb.size (.cells #[.int .i64 (G i 0), .int .i64 (G i 1), .int .i64 (G i 2), .int .i64 (G i 3), .int .i64 (G i 4), .int .i64 (G i 5), .int .i64 (G i 6), .int .i64 (G i 7), .int .i64 (G i 8), .int .i64 (G i 9), .string (T i 10), .string (T i 11)] 23)
                    have bgp := (bg9.below hb bg9.lt).alloc (.cells #[.int .i64 (G i 0), .int .i64 (G i 1), .int .i64 (G i 2), .int .i64 (G i 3), .int .i64 (G i 4), .int .i64 (G i 5), .int .i64 (G i 6), .int .i64 (G i 7), .int .i64 (G i 8), .int .i64 (G i 9), .string (T i 10), .string (T i 11)] 23)
                    have hip : (wr.alloc (.cells #[.int .i64 (G i 0), .int .i64 (G i 1), .int .i64 (G i 2), .int .i64 (G i 3), .int .i64 (G i 4), .int .i64 (G i 5), .int .i64 (G i 6), .int .i64 (G i 7), .int .i64 (G i 8), .int .i64 (G i 9), .string (T i 10), .string (T i 11)] 23)).cell? ⟨g15, i, none⟩ = some (.bool (I i)) := (hbp.cell (p := ⟨g15, i, none⟩) (World.block_lt_of_cell? _ _ (HcI9.out i hik))).trans (HcI9.out i hik)
                    have s1 : (wr.alloc (.cells #[.int .i64 (G i 0), .int .i64 (G i 1), .int .i64 (G i 2), .int .i64 (G i 3), .int .i64 (G i 4), .int .i64 (G i 5), .int .i64 (G i 6), .int .i64 (G i 7), .int .i64 (G i 8), .int .i64 (G i 9), .string (T i 10), .string (T i 11)] 23)).cell? ⟨g8, 0, none⟩ = some (.int .i64 (a : Int)) := (World.cell?_alloc_lt _ _ _ (World.block_lt_of_cell? _ _ s0)).trans s0
                    clear k0 k1 k2 k3 k4 k5 k6 k7 k8 k9 k10 k11 hown hb hr10 hri10 s0
                    generalize wr.alloc (.cells #[.int .i64 (G i 0), .int .i64 (G i 1), .int .i64 (G i 2), .int .i64 (G i 3), .int .i64 (G i 4), .int .i64 (G i 5), .int .i64 (G i 6), .int .i64 (G i 7), .int .i64 (G i 8), .int .i64 (G i 9), .string (T i 10), .string (T i 11)] 23) = wp at *
                    generalize wr.heap.size = Xb at *
                    by_cases hia : i = a
                    ·
                      have hne : ((i : Int) == (a : Int)) = true := by rw [hia]; simp
                      have hIi : I i = true := by rw [hia]; exact HIa.out
                      rw [hIi] at hip
                      have Hr : Hid (outL I a n (i + 1) = (outL I a n i ++ [none]) ++ restL I n) := hide (by rw [Hou.out, if_pos hia, hIi]; simp)
                      have Hrow : Hid ((List.range 12).map (rcV G sel T (G a 1) x0 y0 Wd Ht none) = [.int .i64 77, .int .i64 (G a 1), .int .i64 5, .int .i64 x0, .int .i64 y0, .int .i64 Wd, .int .i64 Ht, .int .i64 0, .int .i64 0, .int .i64 0, .string ⟨#[]⟩, .string ⟨#[]⟩]) := hide (by
                        simp [List.range_succ, rcV, coV, grV, coT])
                      have m0 : wp.cell? ⟨g14, 0, none⟩ = some (.int .i64 77) := bgp.cell 0
                      have m1 : wp.cell? ⟨g14, 1, none⟩ = some (.int .i64 (G a 1)) := bgp.cell 1
                      have m2 : wp.cell? ⟨g14, 2, none⟩ = some (.int .i64 5) := bgp.cell 2
                      have m3 : wp.cell? ⟨g14, 3, none⟩ = some (.int .i64 x0) := bgp.cell 3
                      have m4 : wp.cell? ⟨g14, 4, none⟩ = some (.int .i64 y0) := bgp.cell 4
                      have m5 : wp.cell? ⟨g14, 5, none⟩ = some (.int .i64 Wd) := bgp.cell 5
                      have m6 : wp.cell? ⟨g14, 6, none⟩ = some (.int .i64 Ht) := bgp.cell 6
                      have m7 : wp.cell? ⟨g14, 7, none⟩ = some (.int .i64 0) := bgp.cell 7
                      have m8 : wp.cell? ⟨g14, 8, none⟩ = some (.int .i64 0) := bgp.cell 8
                      have m9 : wp.cell? ⟨g14, 9, none⟩ = some (.int .i64 0) := bgp.cell 9
                      have m10 : wp.cell? ⟨g14, 10, none⟩ = some (.string ⟨#[]⟩) := bgp.cell 10
                      have m11 : wp.cell? ⟨g14, 11, none⟩ = some (.string ⟨#[]⟩) := bgp.cell 11
                      have hone : ∀ u ∈ rowsL G sel T (G a 1) x0 y0 Wd Ht (restL I n), u.oneCell' = true := fun u hu => by
                        unfold rowsL at hu
                        obtain ⟨c, _, hc⟩ := List.mem_flatMap.1 hu
                        obtain ⟨j, _, rfl⟩ := List.mem_map.1 hc
                        unfold rcV
                        split <;> rfl
                      have Ho := hide hone
                      have Hlr : Hid ((rowsL G sel T (G a 1) x0 y0 Wd Ht (restL I n)).length = (restL I n).length * 12) := hide (by rw [rowsL_all, rowF_length])
                      have hnw : ∀ (w5 : World), Below wc.heap.size wc w5 → ∀ (j : Nat) (u : Value), (rowsL G sel T (G a 1) x0 y0 Wd Ht (restL I n))[j]? = some u → w5.cell? ((⟨g9, 0, none⟩ : Addr).add j) = some u := fun w5 hb5 j u hu => by
                        have h5 := own_below Hrest.out hb5
                        have hj : j < (restL I n).length * 12 := by
                          have := (List.getElem?_eq_some_iff.1 hu).1
                          rwa [Hlr.out] at this
                        rw [Addr.add_lit, Nat.zero_add, h5.cellAt j hj]
                        exact hu
                      have Hnw := hide hnw
                      have HIi := hide hIi
                      clear hone hnw hIi hia bp bgp
                      have hbsz := hbp.size
                      go_wp2_with (first
                        | (at_builtin; refine wpL_append rfl rfl Tryd.underlying25 shape_info rfl (by decide) rfl rfl (hownp.alloc _) (news_at _ _ _ _ (by simp)) rfl (by simp [Value.oneCell']) (by omega) (by omega) (by simp; omega) ?_; intro v5 w5 hown5 hgrow5; have hb5 := below_app (hbp.alloc hbp.size _) (by simp; omega) (hownp.alloc _) hgrow5; obtain ⟨A5, c5, rfl⟩ := own_form hown5)
                        | (at_builtin; refine wpL_append (news := rowsL G sel T (G a 1) x0 y0 Wd Ht (restL I n)) rfl rfl Tryd.underlying25 shape_info rfl (by decide) rfl rfl hown5 (Hnw.out _ hb5) Hlr.out Ho.out (by omega) (by omega) hb5.size ?_; intro v6 w6' hown6 hgrow6; have hb6 := below_app hb5 hb5.size hown5 hgrow6; obtain ⟨A6, c6, rfl⟩ := own_form hown6; have hip6 := (hb6.cell (p := ⟨g15, i, none⟩) (World.block_lt_of_cell? _ _ (HcI9.out i hik))).trans (HcI9.out i hik); rw [HIi.out] at hip6))
                      have hrow6 : w6'.ownsRow wc.heap.size 23 12 (.slice A6 ((outL I a n i).length + 1 + (restL I n).length) c6) (outL I a n (i + 1)).length (rowsL G sel T (G a 1) x0 y0 Wd Ht (outL I a n (i + 1))) := by
                        rw [Hr.out, List.length_append, List.length_append, rowsL_app, rowsL_push, Hrow.out]
                        exact hown6
                      exact ⟨⟨i + 1, by omega, by simp, hrow6, hb6⟩, by simp only [intOf]; omega⟩
                    · have hne : ((i : Int) == (a : Int)) = false := beq_eq_false_iff_ne.2 (by omega)
                      cases hIi : I i with
                      | true =>
                        rw [hIi] at hip
                        have Hr : Hid (outL I a n (i + 1) = outL I a n i) := hide (by rw [Hou.out, if_neg hia, hIi]; simp)
                        have Hown := hide (And.intro hownp hbp)
                        clear bp hownp hbp bgp hIi hia
                        go_wp2_with fail
                        exact ⟨⟨i + 1, by omega, by simp, by rw [Hr.out]; exact Hown.out.1, Hown.out.2⟩, by simp only [intOf]; omega⟩
                      | false =>
                        rw [hIi] at hip
                        have Hr : Hid (outL I a n (i + 1) = outL I a n i ++ [some i]) := hide (by rw [Hou.out, if_neg hia, hIi]; simp)
                        have hse : sel i = false := by
                          cases hs2 : sel i with
                          | false => rfl
                          | true => rw [← HI.out, inn_sel Hs.out hik hs2] at hIi; cases hIi
                        have Hrow : Hid ((List.range 12).map (rcV G sel T (G a 1) x0 y0 Wd Ht (some i)) = [.int .i64 (G i 0), .int .i64 (G i 1), .int .i64 (G i 2), .int .i64 (G i 3), .int .i64 (G i 4), .int .i64 (G i 5), .int .i64 (G i 6), .int .i64 (G i 7), .int .i64 (G i 8), .int .i64 (G i 9), .string (T i 10), .string (T i 11)]) := hide (by
                          have : ∀ j, coV G sel 77 (G a 1) x0 y0 Wd Ht (some i) j = G i j := fun j => by show (if sel i then _ else _) = _; rw [hse]; rfl
                          simp [List.range_succ, rcV, this, coT])
                        have m0 : wp.cell? ⟨Xb, 0, none⟩ = some (.int .i64 (G i 0)) := bp.cell 0
                        have m1 : wp.cell? ⟨Xb, 1, none⟩ = some (.int .i64 (G i 1)) := bp.cell 1
                        have m2 : wp.cell? ⟨Xb, 2, none⟩ = some (.int .i64 (G i 2)) := bp.cell 2
                        have m3 : wp.cell? ⟨Xb, 3, none⟩ = some (.int .i64 (G i 3)) := bp.cell 3
                        have m4 : wp.cell? ⟨Xb, 4, none⟩ = some (.int .i64 (G i 4)) := bp.cell 4
                        have m5 : wp.cell? ⟨Xb, 5, none⟩ = some (.int .i64 (G i 5)) := bp.cell 5
                        have m6 : wp.cell? ⟨Xb, 6, none⟩ = some (.int .i64 (G i 6)) := bp.cell 6
                        have m7 : wp.cell? ⟨Xb, 7, none⟩ = some (.int .i64 (G i 7)) := bp.cell 7
                        have m8 : wp.cell? ⟨Xb, 8, none⟩ = some (.int .i64 (G i 8)) := bp.cell 8
                        have m9 : wp.cell? ⟨Xb, 9, none⟩ = some (.int .i64 (G i 9)) := bp.cell 9
                        have m10 : wp.cell? ⟨Xb, 10, none⟩ = some (.string (T i 10)) := bp.cell 10
                        have m11 : wp.cell? ⟨Xb, 11, none⟩ = some (.string (T i 11)) := bp.cell 11
                        clear hIi hia hse bp bgp
                        go_wp2_with (at_builtin; refine wpL_append rfl rfl Tryd.underlying25 shape_info rfl (by decide) rfl rfl (hownp.alloc _) (news_at _ _ _ _ (by simp)) rfl (by simp [Value.oneCell']) (by omega) (by omega) (by have := hbp.size; simp; omega) ?_; intro v5 w5 hown5 hgrow5)
                        have hrow5 : w5.ownsRow wc.heap.size 23 12 v5 (outL I a n (i + 1)).length (rowsL G sel T (G a 1) x0 y0 Wd Ht (outL I a n (i + 1))) := by
                          rw [Hr.out, List.length_append, rowsL_push, Hrow.out]
                          exact hown5
                        exact ⟨⟨i + 1, by omega, by simp, hrow5, below_app (hbp.alloc hbp.size _) (by have := hbp.size; simp; omega) (hownp.alloc _) hgrow5⟩, by simp only [intOf]; omega⟩
                  · obtain rfl : n = i := by omega
                    have hbl10 := hbl9.trans (hb.mono hbl9.size)
                    have hgl : (outL I a n n).length = n + 1 := by rw [← HI.out]; exact gp_len Hgrp.out
                    have hrows : rowsL G sel T (G a 1) x0 y0 Wd Ht (outL I a n n) = rowF (n + 1) 12 (shV (gpG G n sel a x0 y0 Wd Ht) (gpT G n sel a T)) := by
                      rw [rowsL_all, hgl]
                      refine rowF_congr fun i j _ _ => ?_
                      unfold rcV shV gpG gpT gpL
                      rw [HI.out]
                    rw [hrows] at hown
                    rw [hgl] at hown
                    have hcap := own_cap hown
                    have hra := RdF.of_own hown

                    have Hck := hide (check_ok A7 (n + 1) c7 (gpG G n sel a x0 y0 Wd Ht) (gpT G n sel a T) wr (gp_ok Hgrp.out hfo) hra hcap.1)
                    rw [hgl]
                    have hown' := ownsRow_less hown (show w.heap.size ≤ wc.heap.size from hbl9.size)
                    clear hra hrows hown hb hik hr9 hri9
                    go_wp2_with fail
                    refine Hck.out.mono ?_
                    rintro e wd ⟨rfl, hbd⟩
                    have hownd := own_below hown' hbd
                    have hbld := hbl10.trans (hbd.mono hbl10.size)
                    clear hown' hbl10 hbd Hck
                    go_wp2_with fail
                    go_ret2
                    exact ⟨hbld, .inr (.inr ⟨sel, a, x0, y0, Wd, Ht, A7, c7, Hgrp.out, hfo, rfl, hownd⟩)⟩
end Go.Proofs.YtnmikhmbnpiadaaDoor.Shp
