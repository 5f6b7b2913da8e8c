/- The contract of shape.Ungroup. -/
import Derived.Test.YtnmikhmbnpiadaaDoorShapeClone
import Derived.Test.YtnmikhmbnpiadaaDoorListed
namespace Go.Proofs.YtnmikhmbnpiadaaDoor.Shp
open Go.RowKit Go.Frm

/-- where a shape of the group of place k is when that is taken away -/
def ugX (G : Nat → Nat → Int) (k i : Nat) : Int := if G k 7 = 0 then G i 3 + G k 3 else rdu (tuX (2 * (G i 3 + G k 3) + G i 5) (2 * (G i 4 + G k 4) + G i 6) (2 * (2 * G k 3 + G k 5)) (2 * (2 * G k 4 + G k 6)) (G k 7) - G i 5) 2
def ugY (G : Nat → Nat → Int) (k i : Nat) : Int := if G k 7 = 0 then G i 4 + G k 4 else rdu (tuY (2 * (G i 3 + G k 3) + G i 5) (2 * (G i 4 + G k 4) + G i 6) (2 * (2 * G k 3 + G k 5)) (2 * (2 * G k 4 + G k 6)) (G k 7) - G i 6) 2
def ugW (G : Nat → Nat → Int) (k i : Nat) : Int := if G k 7 = 0 then G i 7 else (G i 7 + G k 7) % 3600
def ugE (G : Nat → Nat → Int) (k i j : Nat) : Int := if G i j = G k 0 then 0 else G i j
/-- the numbers of the shape of place i behind that -/
def ugS (G : Nat → Nat → Int) (k i : Nat) : Nat → Int
  | 1 => if G i 1 = G k 0 then G k 1 else G i 1
  | 3 => if G i 1 = G k 0 then ugX G k i else G i 3
  | 4 => if G i 1 = G k 0 then ugY G k i else G i 4
  | 7 => if G i 1 = G k 0 then ugW G k i else G i 7
  | 8 => ugE G k i 8
  | 9 => ugE G k i 9
  | j => G i j
def src (k i : Nat) : Nat := if i < k then i else i + 1
def ugG (G : Nat → Nat → Int) (k i j : Nat) : Int := ugS G k (src k i) j
def ugT (T : Nat → Nat → ByteArray) (k i j : Nat) : ByteArray := T (src k i) j
def uV (G : Nat → Nat → Int) (T : Nat → Nat → ByteArray) (k i j : Nat) : Value := if j < 10 then .int .i64 (ugS G k i j) else .string (T i j)
theorem uV_eq {G : Nat → Nat → Int} {T : Nat → Nat → ByteArray} {k m i : Nat} (h : src k m = i) : shV (ugG G k) (ugT T k) m = uV G T k i := by subst h; rfl
/-- how many shapes are kept of the first i -/
def kept (k i : Nat) : Nat := if i ≤ k then i else i - 1

def UgPost (n : Nat) (G : Nat → Nat → Int) (T : Nat → Nat → ByteArray) (k : Nat) (w : World) (e : Ending) (w' : World) : Prop :=
  ∃ A' c', e = .returned (.tuple #[.slice A' (n - 1) c', .int .i64 0]) ∧ w'.ownsRow w.heap.size 23 12 (.slice A' (n - 1) c') (n - 1) (rowF (n - 1) 12 (shV (ugG G k) (ugT T k))) ∧ Below w.heap.size w w'

/-- the cells of the shape that is being changed -/
def uC (G : Nat → Nat → Int) (T : Nat → Nat → ByteArray) (i : Nat) (p x y t f e : Int) : Array Value := #[.int .i64 (G i 0), .int .i64 p, .int .i64 (G i 2), .int .i64 x, .int .i64 y, .int .i64 (G i 5), .int .i64 (G i 6), .int .i64 t, .int .i64 f, .int .i64 e, .string (T i 10), .string (T i 11)]
theorem uC_congr {G : Nat → Nat → Int} {T : Nat → Nat → ByteArray} {i : Nat} {p x y t f e p' x' y' t' f' e' : Int} (h1 : p = p') (h2 : x = x') (h3 : y = y') (h4 : t = t') (h5 : f = f') (h6 : e = e') : uC G T i p x y t f e = uC G T i p' x' y' t' f' e' := by subst h1 h2 h3 h4 h5 h6; rfl
/-- what holds in a round: the box of the shape, the box of the group, the row that grows -/
structure Uat (B g8 gx : Nat) (c8 : Array Value) (out : Value) (m : Nat) (xs : List Value) (cs : Array Value) (w wc : World) : Prop where
  bx : Blk wc gx 23 cs
  bg : Blk wc g8 23 c8
  own : wc.ownsRow B 23 12 out m xs
  bel : Below w.heap.size w wc
  ne : gx ≠ g8 ∧ w.heap.size ≤ gx ∧ some gx ≠ out.ownBlock
  sz : B ≤ wc.heap.size
section
variable {B g8 gx m : Nat} {c8 : Array Value} {out : Value} {xs : List Value} {cs cs' : Array Value} {w wc : World}
theorem Uat.set_ (h : Uat B g8 gx c8 out m xs cs w wc) (j : Nat) (u : Value) : Uat B g8 gx c8 out m xs (cs.setIfInBounds j u) w (wc.setCell ⟨gx, j, none⟩ u) :=
  ⟨h.bx.set_ j u, h.bg.far (p := ⟨gx, j, none⟩) (fun hh => h.ne.1 hh.symm) u, ownsRow_setCell_other h.own (a := ⟨gx, j, none⟩) (fun hh => h.ne.2.2 hh.symm) u, h.bel.setCell (p := ⟨gx, j, none⟩) h.ne.2.1 u, h.ne, by simpa [World.setCell] using h.sz⟩
theorem Uat.drewN (h : Uat B g8 gx c8 out m xs cs w wc) (n : Nat) : Uat B g8 gx c8 out m xs cs w (wc.drewN n) := ⟨h.bx.drewN n, h.bg.drewN n, h.own, below_drewN h.bel n, h.ne, h.sz⟩
theorem Uat.cast (h : Uat B g8 gx c8 out m xs cs w wc) (he : cs = cs') : Uat B g8 gx c8 out m xs cs' w wc := he ▸ h
end
theorem tu_bd (x y cx cy t : Int) (x1 : x.natAbs ≤ 100000000) (y1 : y.natAbs ≤ 100000000) (cx1 : cx.natAbs ≤ 100000000) (cy1 : cy.natAbs ≤ 100000000) : (tuX x y cx cy t).natAbs ≤ 10000000000 ∧ (tuY x y cx cy t).natAbs ≤ 10000000000 := by
  have bs := sn_bd t
  have bc := sn_bd (t + 900)
  unfold tuX tuY rdu
  generalize sn (t + 900) = c at *
  generalize sn t = s at *
  have m1 := mul_in (a := 2 * x - cx) (b := c) (A := 300000000) (B := 65537) (by omega) (by omega)
  have m2 := mul_in (a := 2 * y - cy) (b := s) (A := 300000000) (B := 65537) (by omega) (by omega)
  have m3 := mul_in (a := 2 * x - cx) (b := s) (A := 300000000) (B := 65537) (by omega) (by omega)
  have m4 := mul_in (a := 2 * y - cy) (b := c) (A := 300000000) (B := 65537) (by omega) (by omega)
  generalize (2 * x - cx) * c = z1 at *
  generalize (2 * y - cy) * s = z2 at *
  generalize (2 * x - cx) * s = z3 at *
  generalize (2 * y - cy) * c = z4 at *
  omega

set_option maxRecDepth 100000 in
set_option maxHeartbeats 8000000 in
theorem ungroup_ok (A : Option Addr) (n c k : Nat) (G : Nat → Nat → Int) (T : Nat → Nat → ByteArray) (w : World) (hq : TabQ w) (ho : ShOk G n) (hr : RdF w A n 12 (shV G T)) (hnc : n ≤ c) (hk : k < n) (h5 : G k 2 = 5) (ho2 : ShOk (ugG G k) (n - 1)) :
    Calls Tryd.prog 16 #[.slice A n c, .int .i64 (G k 0)] w (UgPost n G T k w) := by
  have hn := ho.few
  have Hch := hide (check_ok A n c G T w ho hr hnc)
  have Hfi := hide (fun wx (hx : RdF wx A n 12 (shV G T)) => find_ok A n c G T (G k 0) wx hx (by omega) (k : Int) (firstAt_of ho hk))
  have Ho := hide ho
  have Ho2 := hide ho2
  have Hq := hide hq
  have d5 : (G k 2 != 5) = false := by simp [h5]
  clear ho ho2 hq h5
  go_enter Tryd.func16, Tryd.ntmps16
  go_wp2_with fail
  refine Hch.out.mono ?_
  rintro e w1 ⟨rfl, hb1⟩
  have hr1 := hr.below hb1
  go_wp2_with fail
  refine (Hfi.out w1 hr1).mono ?_
  rintro e w2 ⟨rfl, hb2⟩
  have hbl2 := hb1.trans (hb2.mono hb1.size)
  have hr2 := hr.below hbl2
  obtain ⟨b, off, rfl, k0, k1, k2, k3, k4, k5, k6, k7, k8, k9, k10, k11⟩ := cells12 hr2 hk
  go_upto_region 8 with fail
  have bg : Blk (w2.alloc (.cells #[.int .i64 (G k 0), .int .i64 (G k 1), .int .i64 (G k 2), .int .i64 (G k 3), .int .i64 (G k 4), .int .i64 (G k 5), .int .i64 (G k 6), .int .i64 (G k 7), .int .i64 (G k 8), .int .i64 (G k 9), .string (T k 10), .string (T k 11)] 23)) w2.heap.size 23 (shC G T k) := Blk.new w2 _ _
  have hbl3 := hbl2.alloc hbl2.size (.cells #[.int .i64 (G k 0), .int .i64 (G k 1), .int .i64 (G k 2), .int .i64 (G k 3), .int .i64 (G k 4), .int .i64 (G k 5), .int .i64 (G k 6), .int .i64 (G k 7), .int .i64 (G k 8), .int .i64 (G k 9), .string (T k 10), .string (T k 11)] 23)
  have hs3 : w2.heap.size < (w2.alloc (.cells #[.int .i64 (G k 0), .int .i64 (G k 1), .int .i64 (G k 2), .int .i64 (G k 3), .int .i64 (G k 4), .int .i64 (G k 5), .int .i64 (G k 6), .int .i64 (G k 7), .int .i64 (G k 8), .int .i64 (G k 9), .string (T k 10), .string (T k 11)] 23)).heap.size := by simp
  clear k0 k1 k2 k3 k4 k5 k6 k7 k8 k9 k10 k11 hb1 hr1 hb2 hr2 Hch Hfi
  have hgw : w.heap.size ≤ w2.heap.size := hbl2.size
  clear hbl2
  generalize w2.alloc (.cells #[.int .i64 (G k 0), .int .i64 (G k 1), .int .i64 (G k 2), .int .i64 (G k 3), .int .i64 (G k 4), .int .i64 (G k 5), .int .i64 (G k 6), .int .i64 (G k 7), .int .i64 (G k 8), .int .i64 (G k 9), .string (T k 10), .string (T k 11)] 23) = w3 at *
  generalize w2.heap.size = g8 at *
  obtain ⟨B, hB⟩ : ∃ B, B = w3.heap.size := ⟨_, rfl⟩
  have hB8 : g8 < B := by omega
  have hBw : w.heap.size ≤ B := by omega
  have m2 : w3.cell? ⟨g8, 2, none⟩ = some (.int .i64 (G k 2)) := bg.cell 2
  clear hs3
  go_wp2_with fail
  clear m2
  go_loopw [9, 34] (fun a b' wr => ∃ i : Nat, i ≤ n ∧ b' = .int .i64 i ∧ wr.ownsRow B 23 12 a (kept k i) (rowF (kept k i) 12 (shV (ugG G k) (ugT T k))) ∧ Blk wr g8 23 (shC G T k) ∧ Below w.heap.size w wr ∧ B ≤ wr.heap.size) (fun _ b' _ => n - (intOf b').toNat)
  case atStart => exact ⟨0, by omega, rfl, World.ownsRow_nil _ _ _ _, bg, hbl3, by omega⟩
  case round =>
    clear bg hbl3
    obtain ⟨i, hi, rfl, hown, bg, hbl, hBr⟩ := hrel
    obtain ⟨A5, c5, rfl⟩ := own_form hown
    by_cases hlt : i < n
    · obtain ⟨b', off', hA, k0, k1, k2, k3, k4, k5, k6, k7, k8, k9, k10, k11⟩ := cells12 (hr.below hbl) hlt
      injection hA with hA
      injection hA with hA1 hA2
      subst hA1 hA2
      go_upto_region 14 with fail
      have bx : Blk (wr.alloc (.cells #[.int .i64 (G i 0), .int .i64 (G i 1), .int .i64 (G i 2), .int .i64 (G i 3), .int .i64 (G i 4), .int .i64 (G i 5), .int .i64 (G i 6), .int .i64 (G i 7), .int .i64 (G i 8), .int .i64 (G i 9), .string (T i 10), .string (T i 11)] 23)) wr.heap.size 23 (shC G T i) := Blk.new wr _ _
      have bg1 := bg.alloc (.cells #[.int .i64 (G i 0), .int .i64 (G i 1), .int .i64 (G i 2), .int .i64 (G i 3), .int .i64 (G i 4), .int .i64 (G i 5), .int .i64 (G i 6), .int .i64 (G i 7), .int .i64 (G i 8), .int .i64 (G i 9), .string (T i 10), .string (T i 11)] 23)
      have hbl1 := hbl.alloc hbl.size (.cells #[.int .i64 (G i 0), .int .i64 (G i 1), .int .i64 (G i 2), .int .i64 (G i 3), .int .i64 (G i 4), .int .i64 (G i 5), .int .i64 (G i 6), .int .i64 (G i 7), .int .i64 (G i 8), .int .i64 (G i 9), .string (T i 10), .string (T i 11)] 23)
      have ho1 := hown.alloc (.cells #[.int .i64 (G i 0), .int .i64 (G i 1), .int .i64 (G i 2), .int .i64 (G i 3), .int .i64 (G i 4), .int .i64 (G i 5), .int .i64 (G i 6), .int .i64 (G i 7), .int .i64 (G i 8), .int .i64 (G i 9), .string (T i 10), .string (T i 11)] 23)
      have hne : wr.heap.size ≠ g8 ∧ w.heap.size ≤ wr.heap.size ∧ some wr.heap.size ≠ (Value.slice A5 (kept k i) c5).ownBlock := ⟨by have := bg.lt; omega, hbl.size, fun hh => by have := (hown.lt _ hh.symm).2; omega⟩
      have hB1 : B ≤ (wr.alloc (.cells #[.int .i64 (G i 0), .int .i64 (G i 1), .int .i64 (G i 2), .int .i64 (G i 3), .int .i64 (G i 4), .int .i64 (G i 5), .int .i64 (G i 6), .int .i64 (G i 7), .int .i64 (G i 8), .int .i64 (G i 9), .string (T i 10), .string (T i 11)] 23)).heap.size := by simp; omega
      clear k0 k1 k2 k3 k4 k5 k6 k7 k8 k9 k10 k11 bg hbl hown hBr
      generalize wr.alloc (.cells #[.int .i64 (G i 0), .int .i64 (G i 1), .int .i64 (G i 2), .int .i64 (G i 3), .int .i64 (G i 4), .int .i64 (G i 5), .int .i64 (G i 6), .int .i64 (G i 7), .int .i64 (G i 8), .int .i64 (G i 9), .string (T i 10), .string (T i 11)] 23) = w0 at *
      generalize wr.heap.size = gx at *
      have m0 : w0.cell? ⟨gx, 0, none⟩ = some (.int .i64 (G i 0)) := bx.cell 0
      by_cases hik : i = k
      · have dk : (G i 0 == G k 0) = true := by simp [hik]
        have Hik := hide hik
        clear hik
        go_wp2_with fail
        exact ⟨⟨i + 1, by omega, by simp, by rw [show kept k (i + 1) = kept k i by rw [Hik.out]; simp [kept]]; exact ho1, bg1, hbl1, hB1⟩, by simp only [intOf]; omega⟩
      · have dk : (G i 0 == G k 0) = false := by
          simp
          rcases Nat.lt_or_ge i k with h | h
          · exact Ho.out.one i k h hk
          · exact fun hh => Ho.out.one k i (by omega) hlt hh.symm
        have hx : Uat B g8 gx (shC G T k) (.slice A5 (kept k i) c5) (kept k i) (rowF (kept k i) 12 (shV (ugG G k) (ugT T k))) (uC G T i (G i 1) (G i 3) (G i 4) (G i 7) (G i 8) (G i 9)) w w0 := ⟨bx, bg1, ho1, hbl1, hne, hB1⟩
        have hsrc : src k (kept k i) = i := by unfold src kept; (repeat' split) <;> omega
        have hkep : kept k (i + 1) = kept k i + 1 := by unfold kept; (repeat' split) <;> omega
        have hkn : kept k i ≤ n := by unfold kept; split <;> omega
        have Hs := hide hsrc
        have Hkep := hide hkep
        clear hik bx bg1 ho1 hbl1 hne hsrc hkep m0
        have m0 : w0.cell? ⟨gx, 0, none⟩ = some (.int .i64 (G i 0)) := hx.bx.cell 0
        have m8 : w0.cell? ⟨gx, 8, none⟩ = some (.int .i64 (G i 8)) := hx.bx.cell 8
        generalize kept k i = kk at *
        go_upto_if 45 with fail
        go_cut [] (fun wc => Uat B g8 gx (shC G T k) (.slice A5 kk c5) kk (rowF kk 12 (shV (ugG G k) (ugT T k))) (uC G T i (G i 1) (G i 3) (G i 4) (G i 7) (ugE G k i 8) (G i 9)) w wc)
        case first =>
          have he : ugE G k i 8 = if G i 8 = G k 0 then 0 else G i 8 := rfl
          have z8 : w0.frozen? ⟨gx, 8, none⟩ = false := hx.bx.frozen 8
          by_cases h8 : G i 8 = G k 0
          · rw [if_pos h8] at he
            have d8 : (G i 8 == G k 0) = true := by simpa using h8
            have He := hide he
            clear he h8
            go_wp2_with fail
            go_meet
            exact (hx.set_ 8 (.int .i64 0)).cast (by rw [He.out]; rfl)
          · rw [if_neg h8] at he
            have d8 : (G i 8 == G k 0) = false := by simpa using h8
            have He := hide he
            clear he h8
            go_wp2_with fail
            go_meet
            exact hx.cast (by rw [He.out])
        case rest =>
          clear hx m8 m0
          have hx := hcut
          clear hcut
          have m9 : wc.cell? ⟨gx, 9, none⟩ = some (.int .i64 (G i 9)) := hx.bx.cell 9
          go_upto_if 50 with fail
          go_cut [] (fun wc => Uat B g8 gx (shC G T k) (.slice A5 kk c5) kk (rowF kk 12 (shV (ugG G k) (ugT T k))) (uC G T i (G i 1) (G i 3) (G i 4) (G i 7) (ugE G k i 8) (ugE G k i 9)) w wc)
          case first =>
            have he : ugE G k i 9 = if G i 9 = G k 0 then 0 else G i 9 := rfl
            have z9 : wc.frozen? ⟨gx, 9, none⟩ = false := hx.bx.frozen 9
            by_cases h9 : G i 9 = G k 0
            · rw [if_pos h9] at he
              have d9 : (G i 9 == G k 0) = true := by simpa using h9
              have He := hide he
              clear he h9
              go_wp2_with fail
              go_meet
              exact (hx.set_ 9 (.int .i64 0)).cast (by rw [He.out]; rfl)
            · rw [if_neg h9] at he
              have d9 : (G i 9 == G k 0) = false := by simpa using h9
              have He := hide he
              clear he h9
              go_wp2_with fail
              go_meet
              exact hx.cast (by rw [He.out])
          case rest =>
            clear hx m9
            have hx := hcut
            clear hcut
            have m1 : wc.cell? ⟨gx, 1, none⟩ = some (.int .i64 (G i 1)) := hx.bx.cell 1
            go_upto_if 55 with fail
            go_cut [] (fun wc => Uat B g8 gx (shC G T k) (.slice A5 kk c5) kk (rowF kk 12 (shV (ugG G k) (ugT T k))) #[.int .i64 (ugS G k i 0), .int .i64 (ugS G k i 1), .int .i64 (ugS G k i 2), .int .i64 (ugS G k i 3), .int .i64 (ugS G k i 4), .int .i64 (ugS G k i 5), .int .i64 (ugS G k i 6), .int .i64 (ugS G k i 7), .int .i64 (ugS G k i 8), .int .i64 (ugS G k i 9), .string (T i 10), .string (T i 11)] w wc)
            case first =>
              have hs1 : ugS G k i 1 = if G i 1 = G k 0 then G k 1 else G i 1 := rfl
              have hs3 : ugS G k i 3 = if G i 1 = G k 0 then ugX G k i else G i 3 := rfl
              have hs4 : ugS G k i 4 = if G i 1 = G k 0 then ugY G k i else G i 4 := rfl
              have hs7 : ugS G k i 7 = if G i 1 = G k 0 then ugW G k i else G i 7 := rfl
              by_cases h1 : G i 1 = G k 0
              · rw [if_pos h1] at hs1 hs3 hs4 hs7
                have d1 : (G i 1 == G k 0) = true := by simpa using h1
                have HS := hide (And.intro hs1 (And.intro hs3 (And.intro hs4 hs7)))
                have HX := hide (show ugX G k i = if G k 7 = 0 then G i 3 + G k 3 else rdu (tuX (2 * (G i 3 + G k 3) + G i 5) (2 * (G i 4 + G k 4) + G i 6) (2 * (2 * G k 3 + G k 5)) (2 * (2 * G k 4 + G k 6)) (G k 7) - G i 5) 2 from rfl)
                have HY := hide (show ugY G k i = if G k 7 = 0 then G i 4 + G k 4 else rdu (tuY (2 * (G i 3 + G k 3) + G i 5) (2 * (G i 4 + G k 4) + G i 6) (2 * (2 * G k 3 + G k 5)) (2 * (2 * G k 4 + G k 6)) (G k 7) - G i 6) 2 from rfl)
                have HW := hide (show ugW G k i = if G k 7 = 0 then G i 7 else (G i 7 + G k 7) % 3600 from rfl)
                clear hs1 hs3 hs4 hs7 h1
                obtain ⟨⟨a1, a2⟩, ⟨a3, a4⟩⟩ := Ho.out.xy i hlt
                obtain ⟨⟨a5, a6⟩, ⟨a7, a8⟩⟩ := Ho.out.xy k hk
                obtain ⟨⟨b1, b2⟩, ⟨b3, b4⟩⟩ := Ho.out.wh i hlt
                obtain ⟨⟨b5, b6⟩, ⟨b7, b8⟩⟩ := Ho.out.wh k hk
                obtain ⟨t1, t2⟩ := Ho.out.turn i hlt
                obtain ⟨t3, t4⟩ := Ho.out.turn k hk
                go_upto_region 20 with fail
                go_cut [] (fun wc' => Uat B g8 gx (shC G T k) (.slice A5 kk c5) kk (rowF kk 12 (shV (ugG G k) (ugT T k))) (uC G T i (G k 1) (G i 3 + G k 3) (G i 4 + G k 4) (G i 7) (ugE G k i 8) (ugE G k i 9)) w wc')
                case first =>
                  have m3 : wc.cell? ⟨gx, 3, none⟩ = some (.int .i64 (G i 3)) := hx.bx.cell 3
                  have m4 : wc.cell? ⟨gx, 4, none⟩ = some (.int .i64 (G i 4)) := hx.bx.cell 4
                  have q1 : wc.cell? ⟨g8, 1, none⟩ = some (.int .i64 (G k 1)) := hx.bg.cell 1
                  have q3 : wc.cell? ⟨g8, 3, none⟩ = some (.int .i64 (G k 3)) := hx.bg.cell 3
                  have q4 : wc.cell? ⟨g8, 4, none⟩ = some (.int .i64 (G k 4)) := hx.bg.cell 4
                  have z1 : wc.frozen? ⟨gx, 1, none⟩ = false := hx.bx.frozen 1
                  have z3 : wc.frozen? ⟨gx, 3, none⟩ = false := hx.bx.frozen 3
                  have z4 : wc.frozen? ⟨gx, 4, none⟩ = false := hx.bx.frozen 4
                  have hge := hx.ne.1
                  have v3 : IntKind.i64.wrap (G i 3 + G k 3) = G i 3 + G k 3 := IntWalk.i64_in _ (by omega)
                  have v4 : IntKind.i64.wrap (G i 4 + G k 4) = G i 4 + G k 4 := IntWalk.i64_in _ (by omega)
                  clear a1 a2 a3 a4 a5 a6 a7 a8 b1 b2 b3 b4 b5 b6 b7 b8 t1 t2 t3 t4
                  refine wp_region_listed (S := fun l w' => (l.getD 15 true = false → w'.cell? ⟨gx, 3, none⟩ = some (.int .i64 (G i 3))) ∧ (l.getD 17 true = false → w'.cell? ⟨gx, 4, none⟩ = some (.int .i64 (G i 4))) ∧ w'.cell? ⟨g8, 1, none⟩ = some (.int .i64 (G k 1)) ∧ w'.cell? ⟨g8, 3, none⟩ = some (.int .i64 (G k 3)) ∧ w'.cell? ⟨g8, 4, none⟩ = some (.int .i64 (G k 4))) (by kernel_rfl) ?hSA (fun hHeld => ?_)
                  case hSA => exact ⟨fun _ => m3, fun _ => m4, q1, q3, q4⟩
                  refine wpAnyL_take (i := 0) (v := ?vAn0) rfl (by kernel_rfl) (by kernel_rfl) (by kernel_rfl) (by kernel_rfl) (fun _ _ _ h => h) ?hsAn0 (Or.inl ⟨by rfl, ?hyAn0⟩) (by assumption) (fun hHeld => ?_)
                  case hsAn0 => (intro l w; (try dsimp only); simp only [Go.getD_set_ne true (show (0 : Nat) ≠ 15 by decide), Go.getD_set_ne true (show (0 : Nat) ≠ 17 by decide)])
                  case hyAn0 => (intro w hSw; obtain ⟨l, hl, hc, hSw⟩ := hSw; (try dsimp only at hSw); obtain ⟨cA0, cA1, cA2, cA3, cA4⟩ := hSw; clear hc hl; go_simp; try with_reducible rfl)
                  try simp only [Act.put]
                  refine wpAnyL_take (i := 1) (v := ?vAn1) rfl (by kernel_rfl) (by kernel_rfl) (by kernel_rfl) (by kernel_rfl) (fun _ _ _ h => h) ?hsAn1 (Or.inl ⟨by rfl, ?hyAn1⟩) (by assumption) (fun hHeld => ?_)
                  case hsAn1 => (intro l w; (try dsimp only); simp only [Go.getD_set_ne true (show (1 : Nat) ≠ 15 by decide), Go.getD_set_ne true (show (1 : Nat) ≠ 17 by decide)])
                  case hyAn1 => (intro w hSw; obtain ⟨l, hl, hc, hSw⟩ := hSw; (try dsimp only at hSw); obtain ⟨cA0, cA1, cA2, cA3, cA4⟩ := hSw; clear hc hl; go_simp; try with_reducible rfl)
                  try simp only [Act.put]
                  refine wpAnyL_take (i := 2) (v := ?vAn2) rfl (by kernel_rfl) (by kernel_rfl) (by kernel_rfl) (by kernel_rfl) (fun _ _ _ h => h) ?hsAn2 (Or.inl ⟨by rfl, ?hyAn2⟩) (by assumption) (fun hHeld => ?_)
                  case hsAn2 => (intro l w; (try dsimp only); simp only [Go.getD_set_ne true (show (2 : Nat) ≠ 15 by decide), Go.getD_set_ne true (show (2 : Nat) ≠ 17 by decide)])
                  case hyAn2 => (intro w hSw; obtain ⟨l, hl, hc, hSw⟩ := hSw; (try dsimp only at hSw); obtain ⟨cA0, cA1, cA2, cA3, cA4⟩ := hSw; clear hc hl; go_simp; try with_reducible rfl)
                  try simp only [Act.put]
                  refine wpAnyL_take (i := 3) (v := ?vAn3) rfl (by kernel_rfl) (by kernel_rfl) (by kernel_rfl) (by kernel_rfl) (fun _ _ _ h => h) ?hsAn3 (Or.inl ⟨by rfl, ?hyAn3⟩) (by assumption) (fun hHeld => ?_)
                  case hsAn3 => (intro l w; (try dsimp only); simp only [Go.getD_set_ne true (show (3 : Nat) ≠ 15 by decide), Go.getD_set_ne true (show (3 : Nat) ≠ 17 by decide)])
                  case hyAn3 => (intro w hSw; obtain ⟨l, hl, hc, hSw⟩ := hSw; (try dsimp only at hSw); obtain ⟨cA0, cA1, cA2, cA3, cA4⟩ := hSw; replace cA0 := cA0 (hc.waits 24 (by decide +kernel) hl); clear hc hl; go_simp; try with_reducible rfl)
                  try simp only [Act.put]
                  refine wpAnyL_take (i := 4) (v := ?vAn4) rfl (by kernel_rfl) (by kernel_rfl) (by kernel_rfl) (by kernel_rfl) (fun _ _ _ h => h) ?hsAn4 (Or.inl ⟨by rfl, ?hyAn4⟩) (by assumption) (fun hHeld => ?_)
                  case hsAn4 => (intro l w; (try dsimp only); simp only [Go.getD_set_ne true (show (4 : Nat) ≠ 15 by decide), Go.getD_set_ne true (show (4 : Nat) ≠ 17 by decide)])
                  case hyAn4 => (intro w hSw; obtain ⟨l, hl, hc, hSw⟩ := hSw; (try dsimp only at hSw); obtain ⟨cA0, cA1, cA2, cA3, cA4⟩ := hSw; clear hc hl; go_simp; try with_reducible rfl)
                  try simp only [Act.put]
                  refine wpAnyL_take (i := 5) (v := ?vAn5) rfl (by kernel_rfl) (by kernel_rfl) (by kernel_rfl) (by kernel_rfl) (fun _ _ _ h => h) ?hsAn5 (Or.inl ⟨by rfl, ?hyAn5⟩) (by assumption) (fun hHeld => ?_)
                  case hsAn5 => (intro l w; (try dsimp only); simp only [Go.getD_set_ne true (show (5 : Nat) ≠ 15 by decide), Go.getD_set_ne true (show (5 : Nat) ≠ 17 by decide)])
                  case hyAn5 => (intro w hSw; obtain ⟨l, hl, hc, hSw⟩ := hSw; (try dsimp only at hSw); obtain ⟨cA0, cA1, cA2, cA3, cA4⟩ := hSw; clear hc hl; go_simp; try with_reducible rfl)
                  try simp only [Act.put]
                  refine wpAnyL_take (i := 6) (v := ?vAn6) rfl (by kernel_rfl) (by kernel_rfl) (by kernel_rfl) (by kernel_rfl) (fun _ _ _ h => h) ?hsAn6 (Or.inl ⟨by rfl, ?hyAn6⟩) (by assumption) (fun hHeld => ?_)
                  case hsAn6 => (intro l w; (try dsimp only); simp only [Go.getD_set_ne true (show (6 : Nat) ≠ 15 by decide), Go.getD_set_ne true (show (6 : Nat) ≠ 17 by decide)])
                  case hyAn6 => (intro w hSw; obtain ⟨l, hl, hc, hSw⟩ := hSw; (try dsimp only at hSw); obtain ⟨cA0, cA1, cA2, cA3, cA4⟩ := hSw; clear hc hl; go_simp; try with_reducible rfl)
                  try simp only [Act.put]
                  refine wpAnyL_take (i := 7) (v := ?vAn7) rfl (by kernel_rfl) (by kernel_rfl) (by kernel_rfl) (by kernel_rfl) (fun _ _ _ h => h) ?hsAn7 (Or.inl ⟨by rfl, ?hyAn7⟩) (by assumption) (fun hHeld => ?_)
                  case hsAn7 => (intro l w; (try dsimp only); simp only [Go.getD_set_ne true (show (7 : Nat) ≠ 15 by decide), Go.getD_set_ne true (show (7 : Nat) ≠ 17 by decide)])
                  case hyAn7 => (intro w hSw; obtain ⟨l, hl, hc, hSw⟩ := hSw; (try dsimp only at hSw); obtain ⟨cA0, cA1, cA2, cA3, cA4⟩ := hSw; clear hc hl; go_simp; try with_reducible rfl)
                  try simp only [Act.put]
                  refine wpAnyL_take (i := 8) (v := ?vAn8) rfl (by kernel_rfl) (by kernel_rfl) (by kernel_rfl) (by kernel_rfl) (fun _ _ _ h => h) ?hsAn8 (Or.inl ⟨by rfl, ?hyAn8⟩) (by assumption) (fun hHeld => ?_)
                  case hsAn8 => (intro l w; (try dsimp only); simp only [Go.getD_set_ne true (show (8 : Nat) ≠ 15 by decide), Go.getD_set_ne true (show (8 : Nat) ≠ 17 by decide)])
                  case hyAn8 => (intro w hSw; obtain ⟨l, hl, hc, hSw⟩ := hSw; (try dsimp only at hSw); obtain ⟨cA0, cA1, cA2, cA3, cA4⟩ := hSw; replace cA1 := cA1 (hc.waits 24 (by decide +kernel) hl); clear hc hl; go_simp; try with_reducible rfl)
                  try simp only [Act.put]
                  refine wpAnyL_take (i := 9) (v := ?vAn9) rfl (by kernel_rfl) (by kernel_rfl) (by kernel_rfl) (by kernel_rfl) (fun _ _ _ h => h) ?hsAn9 (Or.inl ⟨by rfl, ?hyAn9⟩) (by assumption) (fun hHeld => ?_)
                  case hsAn9 => (intro l w; (try dsimp only); simp only [Go.getD_set_ne true (show (9 : Nat) ≠ 15 by decide), Go.getD_set_ne true (show (9 : Nat) ≠ 17 by decide)])
                  case hyAn9 => (intro w hSw; obtain ⟨l, hl, hc, hSw⟩ := hSw; (try dsimp only at hSw); obtain ⟨cA0, cA1, cA2, cA3, cA4⟩ := hSw; clear hc hl; go_simp; try with_reducible rfl)
                  try simp only [Act.put]
                  refine wpAnyL_take (i := 10) (v := ?vAn10) rfl (by kernel_rfl) (by kernel_rfl) (by kernel_rfl) (by kernel_rfl) (fun _ _ _ h => h) ?hsAn10 (Or.inl ⟨by rfl, ?hyAn10⟩) (by assumption) (fun hHeld => ?_)
                  case hsAn10 => (intro l w; (try dsimp only); simp only [Go.getD_set_ne true (show (10 : Nat) ≠ 15 by decide), Go.getD_set_ne true (show (10 : Nat) ≠ 17 by decide)])
                  case hyAn10 => (intro w hSw; obtain ⟨l, hl, hc, hSw⟩ := hSw; (try dsimp only at hSw); obtain ⟨cA0, cA1, cA2, cA3, cA4⟩ := hSw; clear hc hl; go_simp; try with_reducible rfl)
                  try simp only [Act.put]
                  refine wpAnyL_take (i := 11) (v := ?vAn11) rfl (by kernel_rfl) (by kernel_rfl) (by kernel_rfl) (by kernel_rfl) (fun _ _ _ h => h) ?hsAn11 (Or.inl ⟨by rfl, ?hyAn11⟩) (by assumption) (fun hHeld => ?_)
                  case hsAn11 => (intro l w; (try dsimp only); simp only [Go.getD_set_ne true (show (11 : Nat) ≠ 15 by decide), Go.getD_set_ne true (show (11 : Nat) ≠ 17 by decide)])
                  case hyAn11 => (intro w hSw; obtain ⟨l, hl, hc, hSw⟩ := hSw; (try dsimp only at hSw); obtain ⟨cA0, cA1, cA2, cA3, cA4⟩ := hSw; clear hc hl; go_simp; try with_reducible rfl)
                  try simp only [Act.put]
                  refine wpAnyL_take (i := 12) (v := ?vAn12) rfl (by kernel_rfl) (by kernel_rfl) (by kernel_rfl) (by kernel_rfl) (fun _ _ _ h => h) ?hsAn12 (Or.inl ⟨by rfl, ?hyAn12⟩) (by assumption) (fun hHeld => ?_)
                  case hsAn12 => (intro l w; (try dsimp only); simp only [Go.getD_set_ne true (show (12 : Nat) ≠ 15 by decide), Go.getD_set_ne true (show (12 : Nat) ≠ 17 by decide)])
                  case hyAn12 => (intro w hSw; obtain ⟨l, hl, hc, hSw⟩ := hSw; (try dsimp only at hSw); obtain ⟨cA0, cA1, cA2, cA3, cA4⟩ := hSw; clear hc hl; go_simp; try with_reducible rfl)
                  try simp only [Act.put]
                  refine wpAnyL_ready (rs := [13]) (by kernel_rfl) (by simp) (AllReadyL.cons rfl (fun K hK => ?_) AllReadyL.nil)
                  go_simp
                  refine hK.out _ _ ?hkAn13 (fun hHeld => ?_)
                  case hkAn13 => first | (go_keep; done) | (refine ⟨?_, ?_, ?_, ?_, ?_⟩ <;> first | (go_keep; done) | (intro h; first | exact absurd h (by decide) | (go_keep; done) | ((try refine cell_drew ?_); (repeat (refine cell_other ?_ (by decide))); assumption)) | ((try refine cell_drew ?_); (repeat (refine cell_other ?_ (by decide))); assumption))
                  clear hK K
                  try simp only [Act.put]
                  refine wpAnyL_take (i := 14) (v := ?vAn14) rfl (by kernel_rfl) (by kernel_rfl) (by kernel_rfl) (by kernel_rfl) (fun _ _ _ h => h) ?hsAn14 (Or.inl ⟨by rfl, ?hyAn14⟩) (by assumption) (fun hHeld => ?_)
                  case hsAn14 => (intro l w; (try dsimp only); simp only [Go.getD_set_ne true (show (14 : Nat) ≠ 15 by decide), Go.getD_set_ne true (show (14 : Nat) ≠ 17 by decide)])
                  case hyAn14 => (intro w hSw; obtain ⟨l, hl, hc, hSw⟩ := hSw; (try dsimp only at hSw); obtain ⟨cA0, cA1, cA2, cA3, cA4⟩ := hSw; clear hc hl; go_simp; try with_reducible rfl)
                  try simp only [Act.put]
                  refine wpAnyL_ready (rs := [15]) (by kernel_rfl) (by simp) (AllReadyL.cons rfl (fun K hK => ?_) AllReadyL.nil)
                  go_simp
                  refine hK.out _ _ ?hkAn15 (fun hHeld => ?_)
                  case hkAn15 => first | (go_keep; done) | (refine ⟨?_, ?_, ?_, ?_, ?_⟩ <;> first | (go_keep; done) | (intro h; first | exact absurd h (by decide) | (go_keep; done) | ((try refine cell_drew ?_); (repeat (refine cell_other ?_ (by decide))); assumption)) | ((try refine cell_drew ?_); (repeat (refine cell_other ?_ (by decide))); assumption))
                  clear hK K
                  try simp only [Act.put]
                  refine wpAnyL_take (i := 16) (v := ?vAn16) rfl (by kernel_rfl) (by kernel_rfl) (by kernel_rfl) (by kernel_rfl) (fun _ _ _ h => h) ?hsAn16 (Or.inl ⟨by rfl, ?hyAn16⟩) (by assumption) (fun hHeld => ?_)
                  case hsAn16 => (intro l w; (try dsimp only); simp only [Go.getD_set_ne true (show (16 : Nat) ≠ 15 by decide), Go.getD_set_ne true (show (16 : Nat) ≠ 17 by decide)])
                  case hyAn16 => (intro w hSw; obtain ⟨l, hl, hc, hSw⟩ := hSw; (try dsimp only at hSw); obtain ⟨cA0, cA1, cA2, cA3, cA4⟩ := hSw; clear hc hl; go_simp; try with_reducible rfl)
                  try simp only [Act.put]
                  refine wpAnyL_ready (rs := [17]) (by kernel_rfl) (by simp) (AllReadyL.cons rfl (fun K hK => ?_) AllReadyL.nil)
                  go_simp
                  refine hK.out _ _ ?hkAn17 (fun hHeld => ?_)
                  case hkAn17 => first | (go_keep; done) | (refine ⟨?_, ?_, ?_, ?_, ?_⟩ <;> first | (go_keep; done) | (intro h; first | exact absurd h (by decide) | (go_keep; done) | ((try refine cell_drew ?_); (repeat (refine cell_other ?_ (by decide))); assumption)) | ((try refine cell_drew ?_); (repeat (refine cell_other ?_ (by decide))); assumption))
                  clear hK K
                  try simp only [Act.put]
                  refine wpAnyL_done (by kernel_rfl) ?_ _
                  go_wp2_with fail
                  go_meet
                  exact ((((hx.drewN 1).set_ _ _).set_ _ _).set_ _ _).cast rfl
                case rest =>
                  clear hx m1
                  have hx := hcut
                  clear hcut
                  have q7 : wc.cell? ⟨g8, 7, none⟩ = some (.int .i64 (G k 7)) := hx.bg.cell 7
                  have eX := HX.out
                  have eY := HY.out
                  have eW := HW.out
                  by_cases h7 : G k 7 = 0
                  · rw [if_pos h7] at eX eY eW
                    have d7 : (G k 7 != 0) = false := by simp [h7]
                    have HE := hide (And.intro eX (And.intro eY eW))
                    clear h7 eX eY eW
                    go_wp2_with fail
                    go_meet
                    exact hx.cast (uC_congr HS.out.1.symm (HS.out.2.1.trans HE.out.1).symm (HS.out.2.2.1.trans HE.out.2.1).symm (HS.out.2.2.2.trans HE.out.2.2).symm rfl rfl)
                  · rw [if_neg h7] at eX eY eW
                    have d7 : (G k 7 != 0) = true := by simpa using h7
                    have HE := hide (And.intro eX (And.intro eY eW))
                    clear h7 eX eY eW
                    have m3 : wc.cell? ⟨gx, 3, none⟩ = some (.int .i64 (G i 3 + G k 3)) := hx.bx.cell 3
                    have m4 : wc.cell? ⟨gx, 4, none⟩ = some (.int .i64 (G i 4 + G k 4)) := hx.bx.cell 4
                    have m5 : wc.cell? ⟨gx, 5, none⟩ = some (.int .i64 (G i 5)) := hx.bx.cell 5
                    have m6 : wc.cell? ⟨gx, 6, none⟩ = some (.int .i64 (G i 6)) := hx.bx.cell 6
                    have q3 : wc.cell? ⟨g8, 3, none⟩ = some (.int .i64 (G k 3)) := hx.bg.cell 3
                    have q4 : wc.cell? ⟨g8, 4, none⟩ = some (.int .i64 (G k 4)) := hx.bg.cell 4
                    have q5 : wc.cell? ⟨g8, 5, none⟩ = some (.int .i64 (G k 5)) := hx.bg.cell 5
                    have q6 : wc.cell? ⟨g8, 6, none⟩ = some (.int .i64 (G k 6)) := hx.bg.cell 6
                    have hqc := hide (Hq.out.below hx.bel)
                    have Ht := hide (turned_ok (2 * (G i 3 + G k 3) + G i 5) (2 * (G i 4 + G k 4) + G i 6) (2 * (2 * G k 3 + G k 5)) (2 * (2 * G k 4 + G k 6)) (G k 7) wc hqc.out (by omega) (by omega) (by omega) (by omega) (by omega))
                    have hbd := tu_bd (2 * (G i 3 + G k 3) + G i 5) (2 * (G i 4 + G k 4) + G i 6) (2 * (2 * G k 3 + G k 5)) (2 * (2 * G k 4 + G k 6)) (G k 7) (by omega) (by omega) (by omega) (by omega)
                    have c1 : -20000000000 ≤ tuX (2 * (G i 3 + G k 3) + G i 5) (2 * (G i 4 + G k 4) + G i 6) (2 * (2 * G k 3 + G k 5)) (2 * (2 * G k 4 + G k 6)) (G k 7) ∧ tuX (2 * (G i 3 + G k 3) + G i 5) (2 * (G i 4 + G k 4) + G i 6) (2 * (2 * G k 3 + G k 5)) (2 * (2 * G k 4 + G k 6)) (G k 7) ≤ 20000000000 := by omega
                    have c2 : -20000000000 ≤ tuY (2 * (G i 3 + G k 3) + G i 5) (2 * (G i 4 + G k 4) + G i 6) (2 * (2 * G k 3 + G k 5)) (2 * (2 * G k 4 + G k 6)) (G k 7) ∧ tuY (2 * (G i 3 + G k 3) + G i 5) (2 * (G i 4 + G k 4) + G i 6) (2 * (2 * G k 3 + G k 5)) (2 * (2 * G k 4 + G k 6)) (G k 7) ≤ 20000000000 := by omega
                    clear hbd hqc
                    go_upto_region 23 with (go_at_call 27; refine Ht.out.mono ?_; rintro e w5 ⟨rfl, d5', rfl⟩)
                    generalize tuX (2 * (G i 3 + G k 3) + G i 5) (2 * (G i 4 + G k 4) + G i 6) (2 * (2 * G k 3 + G k 5)) (2 * (2 * G k 4 + G k 6)) (G k 7) = tx at *
                    generalize tuY (2 * (G i 3 + G k 3) + G i 5) (2 * (G i 4 + G k 4) + G i 6) (2 * (2 * G k 3 + G k 5)) (2 * (2 * G k 4 + G k 6)) (G k 7) = ty at *
                    replace hx := hx.drewN d5'
                    clear m3 m4 m5 m6 q3 q4 q5 q6 q7 Ht
                    generalize wc.drewN d5' = wd at *
                    go_cut [] (fun wc' => Uat B g8 gx (shC G T k) (.slice A5 kk c5) kk (rowF kk 12 (shV (ugG G k) (ugT T k))) (uC G T i (G k 1) (rdu (tx - G i 5) 2) (rdu (ty - G i 6) 2) (G i 7) (ugE G k i 8) (ugE G k i 9)) w wc')
                    case first =>
                      have m5 : wd.cell? ⟨gx, 5, none⟩ = some (.int .i64 (G i 5)) := hx.bx.cell 5
                      have m6 : wd.cell? ⟨gx, 6, none⟩ = some (.int .i64 (G i 6)) := hx.bx.cell 6
                      have m3 : wd.cell? ⟨gx, 3, none⟩ = some (.int .i64 (G i 3 + G k 3)) := hx.bx.cell 3
                      have m4 : wd.cell? ⟨gx, 4, none⟩ = some (.int .i64 (G i 4 + G k 4)) := hx.bx.cell 4
                      have z3 : wd.frozen? ⟨gx, 3, none⟩ = false := hx.bx.frozen 3
                      have z4 : wd.frozen? ⟨gx, 4, none⟩ = false := hx.bx.frozen 4
                      have r1 := hide (fun wx => round_ok (tx - G i 5) 2 wx (by omega) (by omega) (by omega) (by omega))
                      have r2 := hide (fun wx => round_ok (ty - G i 6) 2 wx (by omega) (by omega) (by omega) (by omega))
                      have v5 : IntKind.i64.wrap (tx - G i 5) = tx - G i 5 := IntWalk.i64_in _ (by omega)
                      have v6 : IntKind.i64.wrap (ty - G i 6) = ty - G i 6 := IntWalk.i64_in _ (by omega)
                      clear a1 a2 a3 a4 a5 a6 a7 a8 b1 b2 b3 b4 b5 b6 b7 b8 t1 t2 t3 t4 c1 c2
                      go_region_held3 (fun w' => w'.cell? ⟨gx, 5, none⟩ = some (.int .i64 (G i 5)) ∧ w'.cell? ⟨gx, 6, none⟩ = some (.int .i64 (G i 6)))
                        (first | (go_keep; done) | exact ⟨m5, m6⟩ | (refine ⟨?_, ?_⟩ <;> ((try refine cell_drew ?_); (repeat (refine cell_other ?_ (by decide))); assumption)))
                        ((go_at_call 28; first | ((with_reducible refine (r1.out _).mono ?_); rintro e w1 ⟨rfl, rfl⟩) | ((with_reducible refine (r2.out _).mono ?_); rintro e w1 ⟨rfl, rfl⟩)))
                      all_goals
                        go_wp2_with fail
                        go_meet
                        exact (((hx.drewN 1).set_ _ _).set_ _ _).cast rfl
                    case rest =>
                      clear hx
                      have hx := hcut
                      clear hcut
                      have m7 : wc.cell? ⟨gx, 7, none⟩ = some (.int .i64 (G i 7)) := hx.bx.cell 7
                      have z7 : wc.frozen? ⟨gx, 7, none⟩ = false := hx.bx.frozen 7
                      have q7 : wc.cell? ⟨g8, 7, none⟩ = some (.int .i64 (G k 7)) := hx.bg.cell 7
                      go_wp2_with fail
                      go_meet
                      exact (hx.set_ _ _).cast (uC_congr HS.out.1.symm (HS.out.2.1.trans HE.out.1).symm (HS.out.2.2.1.trans HE.out.2.1).symm (HS.out.2.2.2.trans HE.out.2.2).symm rfl rfl)
              · rw [if_neg h1] at hs1 hs3 hs4 hs7
                have d1 : (G i 1 == G k 0) = false := by simpa using h1
                have HS := hide (And.intro hs1 (And.intro hs3 (And.intro hs4 hs7)))
                clear hs1 hs3 hs4 hs7 h1
                go_wp2_with fail
                go_meet
                exact hx.cast (uC_congr HS.out.1.symm HS.out.2.1.symm HS.out.2.2.1.symm HS.out.2.2.2.symm rfl rfl)
            case rest =>
              clear hx m1
              have hx := hcut
              clear hcut
              have y0 : wc.cell? ⟨gx, 0, none⟩ = some (.int .i64 (ugS G k i 0)) := hx.bx.cell 0
              have y1 : wc.cell? ⟨gx, 1, none⟩ = some (.int .i64 (ugS G k i 1)) := hx.bx.cell 1
              have y2 : wc.cell? ⟨gx, 2, none⟩ = some (.int .i64 (ugS G k i 2)) := hx.bx.cell 2
              have y3 : wc.cell? ⟨gx, 3, none⟩ = some (.int .i64 (ugS G k i 3)) := hx.bx.cell 3
              have y4 : wc.cell? ⟨gx, 4, none⟩ = some (.int .i64 (ugS G k i 4)) := hx.bx.cell 4
              have y5 : wc.cell? ⟨gx, 5, none⟩ = some (.int .i64 (ugS G k i 5)) := hx.bx.cell 5
              have y6 : wc.cell? ⟨gx, 6, none⟩ = some (.int .i64 (ugS G k i 6)) := hx.bx.cell 6
              have y7 : wc.cell? ⟨gx, 7, none⟩ = some (.int .i64 (ugS G k i 7)) := hx.bx.cell 7
              have y8 : wc.cell? ⟨gx, 8, none⟩ = some (.int .i64 (ugS G k i 8)) := hx.bx.cell 8
              have y9 : wc.cell? ⟨gx, 9, none⟩ = some (.int .i64 (ugS G k i 9)) := hx.bx.cell 9
              have y10 : wc.cell? ⟨gx, 10, none⟩ = some (.string (T i 10)) := hx.bx.cell 10
              have y11 : wc.cell? ⟨gx, 11, none⟩ = some (.string (T i 11)) := hx.bx.cell 11
              go_wp2_with (at_builtin; refine wpL_append rfl rfl Tryd.underlying25 shape_info rfl (by decide) rfl rfl (hx.own.alloc _) (news_at _ _ _ _ (by simp)) rfl (by simp [Value.oneCell']) (by omega) (by omega) (by have := hx.sz; simp; omega) ?_; intro v1 w3 hown3 hgrow3)
              exact ⟨⟨i + 1, by omega, by simp, by rw [Hkep.out, rowF_succ, uV_eq Hs.out]; exact hown3, (hx.bg.alloc _).app (hx.own.alloc _) hB8 hgrow3, below_app (hx.bel.alloc hx.bel.size _) (by have := hx.bel.size; simp; omega) (ownsRow_less (hx.own.alloc _) hBw) hgrow3, Nat.le_trans hx.sz (Nat.le_trans (by simp) hgrow3.size)⟩, by simp only [intOf]; omega⟩
    · have hin : n = i := by omega
      subst hin
      have hkn : kept k n = n - 1 := by unfold kept; split <;> omega
      rw [hkn] at hown ⊢
      have hcc := own_cap hown
      have Hch := hide (check_ok A5 (n - 1) c5 (ugG G k) (ugT T k) wr Ho2.out (RdF.of_own hown) hcc.1)
      clear hkn hcc hlt hi
      go_wp2_with fail
      refine Hch.out.mono ?_
      rintro e w4 ⟨rfl, hb4⟩
      have hoe := own_below hown hb4
      go_wp2_with fail
      go_ret2
      exact ⟨A5, c5, rfl, ownsRow_less hoe hBw, hbl.trans (hb4.mono hbl.size)⟩
end Go.Proofs.YtnmikhmbnpiadaaDoor.Shp
