/- Contracts of package shape: out. -/
import Derived.Test.YtnmikhmbnpiadaaDoorShapeTurn
import Derived.Test.YtnmikhmbnpiadaaDoorShapeParents
import Derived.Deep.LoopGhost
namespace Go.Proofs.YtnmikhmbnpiadaaDoor.Shp
open Go.RowKit Go.Frm

/-- a point goes up through the groups that hold it, to the drawing -/
inductive OutTo (G : Nat → Nat → Int) (n : Nat) : Nat → Int → Int → Int → Int → Int → Prop
  | done (q : Nat) (x y : Int) : OutTo G n q 0 x y x y
  | step (q p : Nat) (x y x' y' : Int) (hp : p < q) (hq : q ≤ n) (hne : G p 0 ≠ 0) (hx : (x + G p 3).natAbs ≤ 1000000000) (hy : (y + G p 4).natAbs ≤ 1000000000)
      (h : OutTo G n p (G p 1) (tuX (x + G p 3) (y + G p 4) (2 * G p 3 + G p 5) (2 * G p 4 + G p 6) (G p 7)) (tuY (x + G p 3) (y + G p 4) (2 * G p 3 + G p 5) (2 * G p 4 + G p 6) (G p 7)) x' y') : OutTo G n q (G p 0) x y x' y'
/-- behind a name that the walk leaves alone -/
def Out (G : Nat → Nat → Int) (n q : Nat) (pa x y x' y' : Int) : Prop := OutTo G n q pa x y x' y'
theorem Out.cases {G : Nat → Nat → Int} {n q : Nat} {pa x y x' y' : Int} (h : Out G n q pa x y x' y') : (pa = 0 ∧ x' = x ∧ y' = y) ∨ ∃ p, p < q ∧ q ≤ n ∧ pa ≠ 0 ∧ G p 0 = pa ∧ (x + G p 3).natAbs ≤ 1000000000 ∧ (y + G p 4).natAbs ≤ 1000000000 ∧
    Out G n p (G p 1) (tuX (x + G p 3) (y + G p 4) (2 * G p 3 + G p 5) (2 * G p 4 + G p 6) (G p 7)) (tuY (x + G p 3) (y + G p 4) (2 * G p 3 + G p 5) (2 * G p 4 + G p 6) (G p 7)) x' y' := by
  cases h with
  | done q x y => exact .inl ⟨rfl, rfl, rfl⟩
  | step q p x y x' y' hp hq hne hx hy h => exact .inr ⟨p, hp, hq, hne, rfl, hx, hy, h⟩

theorem firstAt_of {G : Nat → Nat → Int} {n : Nat} (ho : ShOk G n) {p : Nat} (hp : p < n) : FirstAt G n (G p 0) (p : Int) := .inl ⟨p, rfl, hp, rfl, fun j hj => ho.one j p hj hp⟩

set_option maxRecDepth 100000 in
set_option maxHeartbeats 4000000 in
theorem out_ok (A : Option Addr) (n c : Nat) (G : Nat → Nat → Int) (T : Nat → Nat → ByteArray) (pa x y x' y' : Int) (q0 : Nat) (w : World) (hq : TabQ w) (ho : ShOk G n) (hr : RdF w A n 12 (shV G T)) (hout : Out G n q0 pa x y x' y') :
    Calls Tryd.prog 37 #[.slice A n c, .int .i64 pa, .int .i64 x, .int .i64 y] w fun e w' => e = .returned (.tuple #[.int .i64 x', .int .i64 y']) ∧ Below w.heap.size w w' := by
  have Ho := hide ho
  have hn := ho.few
  have Hq := hide hq
  clear ho hq
  go_enter Tryd.func37, Tryd.ntmps37
  go_wp2_with fail
  go_loopg [1, 2, 3] q0 (fun q a b d wr => ∃ (pb u v : Int), q ≤ q0 ∧ a = .int .i64 pb ∧ b = .int .i64 u ∧ d = .int .i64 v ∧ Out G n q pb u v x' y' ∧ Below w.heap.size w wr)
  case atStart => exact ⟨pa, x, y, Nat.le_refl _, rfl, rfl, rfl, hout, Below.refl _ _⟩
  case round =>
    clear hout
    obtain ⟨pb, u, v, hqq, rfl, rfl, rfl, ho, hbl⟩ := hrel
    rcases ho.cases with ⟨rfl, rfl, rfl⟩ | ⟨p, hpq, hqn, hne, rfl, hx, hy, hnext⟩
    · clear ho
      go_wp2_with fail
      go_ret2
      exact ⟨rfl, hbl⟩
    · clear ho
      have hz : (G p 0 != 0) = true := by simpa using hne
      have hpn : p < n := by omega
      have hf := find_ok A n c G T (G p 0) wr (hr.below hbl) (by omega) (p : Int) (firstAt_of Ho.out hpn)
      have hbq : TabQ wr := Hq.out.below hbl
      obtain ⟨⟨x1, x2⟩, ⟨y1, y2⟩⟩ := Ho.out.xy p hpn
      obtain ⟨⟨v1, v2⟩, ⟨h1, h2⟩⟩ := Ho.out.wh p hpn
      obtain ⟨t1, t2⟩ := Ho.out.turn p hpn
      have Hf := hide hf
      have Hbq := hide hbq
      have Hnext := hide hnext
      clear hf hbq hnext hne
      go_wp2_with fail
      refine Hf.out.mono ?_
      rintro e w1 ⟨rfl, hb1⟩
      have hblA := hbl.trans (hb1.mono hbl.size)
      obtain ⟨b, off, rfl, k0, k1, k2, k3, k4, k5, k6, k7, k8, k9, k10, k11⟩ := cells12 (hr.below hblA) hpn
      have hq1 := hide (Hq.out.below hblA)
      go_upto_region 3 with fail
      have hb0 : Blk (w1.alloc (.cells (shC G T p) 23)) w1.heap.size 23 (shC G T p) := Blk.new w1 _ _
      have hbel0 : Below w.heap.size w (w1.alloc (.cells (shC G T p) 23)) := hblA.alloc hblA.size _
      have hq2 := hide (hq1.out.below ((Below.refl _ w1).alloc (Nat.le_refl _) (.cells (shC G T p) 23)))
      unfold shC at hb0 hbel0 hq2
      clear k0 k1 k2 k3 k4 k5 k6 k7 k8 k9 k10 k11 hq1
      generalize w1.alloc (.cells #[.int .i64 (G p 0), .int .i64 (G p 1), .int .i64 (G p 2), .int .i64 (G p 3), .int .i64 (G p 4), .int .i64 (G p 5), .int .i64 (G p 6), .int .i64 (G p 7), .int .i64 (G p 8), .int .i64 (G p 9), .string (T p 10), .string (T p 11)] 23) = w0 at *
      generalize w1.heap.size = g at *
      have m1 : w0.cell? ⟨g, 1, none⟩ = some (.int .i64 (G p 1)) := hb0.cell 1
      have m3 : w0.cell? ⟨g, 3, none⟩ = some (.int .i64 (G p 3)) := hb0.cell 3
      have m4 : w0.cell? ⟨g, 4, none⟩ = some (.int .i64 (G p 4)) := hb0.cell 4
      have m5 : w0.cell? ⟨g, 5, none⟩ = some (.int .i64 (G p 5)) := hb0.cell 5
      have m6 : w0.cell? ⟨g, 6, none⟩ = some (.int .i64 (G p 6)) := hb0.cell 6
      have m7 : w0.cell? ⟨g, 7, none⟩ = some (.int .i64 (G p 7)) := hb0.cell 7
      have ht := fun q => turned_ok (u + G p 3) (v + G p 4) (2 * G p 3 + G p 5) (2 * G p 4 + G p 6) (G p 7) w0 q hx hy (by omega) (by omega) (by omega)
      have Ht := hide (ht hq2.out)
      have s1 : -2000000000 ≤ u ∧ u ≤ 2000000000 := by omega
      have s2 : -2000000000 ≤ v ∧ v ≤ 2000000000 := by omega
      clear ht hx hy
      go_wp2_with fail
      refine Ht.out.mono ?_
      rintro e w2 ⟨rfl, d, rfl⟩
      go_wp2_with fail
      go_roundg p
      case measure => omega
      case rel => exact ⟨G p 1, _, _, by omega, rfl, rfl, rfl, Hnext.out, below_drewN hbel0 d⟩
end Go.Proofs.YtnmikhmbnpiadaaDoor.Shp
