/- The contract of chancerykeep3.shapes: a valid drawing out of any one. -/
import Derived.Test.YtnmikhmbnpiadaaDoorShapeFind
import Derived.Test.YtnmikhmbnpiadaaDoorWithin
import Derived.OneCell
namespace Go.Proofs.YtnmikhmbnpiadaaDoor.Shp
open Go.RowKit Go.Frm Wi

def skind (G : Nat → Nat → Int) (i : Nat) : Int := wi (G i 2) 0 7
def spk (G : Nat → Nat → Int) (i : Nat) : Int := wi ((G i 1).tdiv 3) 0 (i - 1)
def spar (G : Nat → Nat → Int) (i : Nat) : Int := if 0 < i ∧ (G i 1).tmod 3 = 0 ∧ skind G (spk G i).toNat = 5 then spk G i + 1 else 0
def sask (G : Nat → Nat → Int) (i : Nat) : Bool := decide (0 < i ∧ (G i 1).tmod 3 = 0)
def send (G : Nat → Nat → Int) (i j : Nat) : Int := if skind G i = 6 then wi (G i j) 0 11 else 0
def sturn (G : Nat → Nat → Int) (turns : Bool) (i : Nat) : Int := if turns then wi (G i 7) 0 3599 else 0
/-- the numbers of the shapes that are made -/
def shG (G : Nat → Nat → Int) (turns : Bool) (i : Nat) : Nat → Int
  | 0 => i + 1
  | 1 => spar G i
  | 2 => skind G i
  | 3 => wi (G i 3) (-2000) 2000
  | 4 => wi (G i 4) (-2000) 2000
  | 5 => wi (G i 5) 0 1500
  | 6 => wi (G i 6) 0 1500
  | 7 => sturn G turns i
  | 8 => send G i 8
  | 9 => send G i 9
  | _ => 0
def shT (T : Nat → Nat → ByteArray) (i j : Nat) : ByteArray := if j = 10 then T i 10 else ⟨#[]⟩

def Sht (n : Nat) (G : Nat → Nat → Int) (T : Nat → Nat → ByteArray) (turns : Bool) (w : World) (e : Ending) (w' : World) : Prop :=
  ∃ A' c', e = .returned (.slice A' (min n 10) c') ∧ w'.ownsRow w.heap.size 23 12 (.slice A' (min n 10) c') (min n 10) (rowF (min n 10) 12 (shV (shG G turns) (shT T))) ∧ Below w.heap.size w w'

/-- the cells of the shape that is being made -/
def xC (i : Nat) (nm : ByteArray) (k x y u v p t f e : Int) : Array Value := #[.int .i64 ((i : Int) + 1), .int .i64 p, .int .i64 k, .int .i64 x, .int .i64 y, .int .i64 u, .int .i64 v, .int .i64 t, .int .i64 f, .int .i64 e, .string nm, .string ⟨#[]⟩]
/-- what holds in a round behind the making of x -/
structure Xat (i g gx : Nat) (G : Nat → Nat → Int) (T : Nat → Nat → ByteArray) (turns : Bool) (out : Value) (cs : Array Value) (w wc : World) : Prop where
  bx : Blk wc gx 23 cs
  bs : Blk wc g 23 (shC G T i)
  own : wc.ownsRow w.heap.size 23 12 out i (rowF i 12 (shV (shG G turns) (shT T)))
  bel : Below w.heap.size w wc
  ne : gx ≠ g ∧ w.heap.size ≤ gx ∧ some gx ≠ out.ownBlock
section
variable {i g gx : Nat} {G : Nat → Nat → Int} {T : Nat → Nat → ByteArray} {turns : Bool} {out : Value} {cs cs' : Array Value} {w wc : World}
theorem Xat.set_ (h : Xat i g gx G T turns out cs w wc) (j : Nat) (u : Value) (he : cs.setIfInBounds j u = cs') : Xat i g gx G T turns out cs' w (wc.setCell ⟨gx, j, none⟩ u) :=
  ⟨he ▸ h.bx.set_ j u, h.bs.far (p := ⟨gx, j, none⟩) (fun hh => h.ne.1 hh.symm) u, ownsRow_setCell_other h.own (a := ⟨gx, j, none⟩) (fun hh => h.ne.2.2 hh.symm) u, h.bel.setCell (p := ⟨gx, j, none⟩) h.ne.2.1 u, h.ne⟩
theorem Xat.drewN (h : Xat i g gx G T turns out cs w wc) (n : Nat) : Xat i g gx G T turns out cs w (wc.drewN n) := ⟨h.bx.drewN n, h.bs.drewN n, h.own, below_drewN h.bel n, h.ne⟩
end

theorem cast_xat {i g gx : Nat} {G : Nat → Nat → Int} {T : Nat → Nat → ByteArray} {turns : Bool} {out : Value} {nm : ByteArray} {k x y u v p p' t f e : Int} {w wc : World} (hp : p = p') (h : Xat i g gx G T turns out (xC i nm k x y u v p' t f e) w wc) :
    Xat i g gx G T turns out (xC i nm k x y u v p t f e) w wc := hp ▸ h
theorem cast_xat2 {i g gx : Nat} {G : Nat → Nat → Int} {T : Nat → Nat → ByteArray} {turns : Bool} {out : Value} {nm : ByteArray} {k x y u v p t f f' e e' : Int} {w wc : World} (hf : f = f') (he : e = e') (h : Xat i g gx G T turns out (xC i nm k x y u v p t f' e') w wc) :
    Xat i g gx G T turns out (xC i nm k x y u v p t f e) w wc := hf ▸ he ▸ h
theorem shape_info : (Tryd.prog.info? 23).map (fun i => (i.zero, i.size, i.bytes)) = some (some (.agg #[.int .i64 0, .int .i64 0, .int .i64 0, .int .i64 0, .int .i64 0, .int .i64 0, .int .i64 0, .int .i64 0, .int .i64 0, .int .i64 0, .string ⟨#[]⟩, .string ⟨#[]⟩]), 12, 112) := by kernel_rfl
theorem tdiv3_wf {z : Int} (h : (Lit.int .i64 z).wf = true) : (Lit.int .i64 (z.tdiv 3)).wf = true ∧ IntKind.i64.wrap (z.tdiv 3) = z.tdiv 3 := by
  have hb := bounds_i64 h
  have h2 : -9223372036854775808 ≤ z.tdiv 3 ∧ z.tdiv 3 ≤ 9223372036854775807 := by
    by_cases h0 : 0 ≤ z
    · rw [Int.tdiv_eq_ediv_of_nonneg h0]; omega
    · have e : z.tdiv 3 = -((-z) / 3) := by rw [← Int.tdiv_eq_ediv_of_nonneg (show 0 ≤ -z by omega), Int.neg_tdiv, Int.neg_neg]
      omega
  exact ⟨by simp [Lit.wf, IntKind.min, IntKind.max, IntKind.signed, IntKind.bits]; omega, IntWalk.i64_in _ (by omega)⟩

set_option maxRecDepth 100000 in
set_option maxHeartbeats 4000000 in
theorem shapes_ok (A : Option Addr) (n c : Nat) (G : Nat → Nat → Int) (T : Nat → Nat → ByteArray) (turns : Bool) (w : World) (hr : RdF w A n 12 (shV G T)) (hn : n ≤ 9223372036854775807) (hwf : ∀ i j, i < n → j < 10 → (Lit.int .i64 (G i j)).wf = true) :
    Calls Tryd.prog 10 #[.slice A n c, .bool turns] w (Sht n G T turns w) := by
  have Hwf := hide hwf
  clear hwf
  go_enter Tryd.func10, Tryd.ntmps10
  go_wp2_with fail
  go_loopw [5, 6] (fun a b wr => ∃ i : Nat, i ≤ min n 10 ∧ b = .int .i64 i ∧ wr.ownsRow w.heap.size 23 12 a i (rowF i 12 (shV (shG G turns) (shT T))) ∧ Below w.heap.size w wr) (fun _ b _ => 10 - (intOf b).toNat)
  case atStart => exact ⟨0, by omega, rfl, World.ownsRow_nil _ _ _ _, Below.refl _ _⟩
  case round =>
    obtain ⟨i, hi, rfl, hown, hbl⟩ := hrel
    obtain ⟨A5, c5, rfl⟩ := own_form hown
    by_cases hlt : i < min n 10
    · have hin : i < n := by omega
      have hi10 : i < 10 := by omega
      obtain ⟨b, off, rfl, k0, k1, k2, k3, k4, k5, k6, k7, k8, k9, k10, k11⟩ := cells12 (hr.below hbl) hin
      have d1 : decide ((i : Int) < (n : Int)) = true := by simp; omega
      go_upto_region 6 with fail
      have b7 : Blk (wr.alloc (.cells #[.int .i64 (G i 0), .int .i64 (G i 1), .int .i64 (G i 2), .int .i64 (G i 3), .int .i64 (G i 4), .int .i64 (G i 5), .int .i64 (G i 6), .int .i64 (G i 7), .int .i64 (G i 8), .int .i64 (G i 9), .string (T i 10), .string (T i 11)] 23)) wr.heap.size 23 (shC G T i) := Blk.new wr _ _
      have hb7 := hbl.alloc hbl.size (.cells #[.int .i64 (G i 0), .int .i64 (G i 1), .int .i64 (G i 2), .int .i64 (G i 3), .int .i64 (G i 4), .int .i64 (G i 5), .int .i64 (G i 6), .int .i64 (G i 7), .int .i64 (G i 8), .int .i64 (G i 9), .string (T i 10), .string (T i 11)] 23)
      have ho7 := hown.alloc (.cells #[.int .i64 (G i 0), .int .i64 (G i 1), .int .i64 (G i 2), .int .i64 (G i 3), .int .i64 (G i 4), .int .i64 (G i 5), .int .i64 (G i 6), .int .i64 (G i 7), .int .i64 (G i 8), .int .i64 (G i 9), .string (T i 10), .string (T i 11)] 23)
      clear k0 k1 k2 k3 k4 k5 k6 k7 k8 k9 k10 k11 hown
      have hgw : w.heap.size ≤ wr.heap.size := hbl.size
      clear hbl
      generalize wr.alloc (.cells #[.int .i64 (G i 0), .int .i64 (G i 1), .int .i64 (G i 2), .int .i64 (G i 3), .int .i64 (G i 4), .int .i64 (G i 5), .int .i64 (G i 6), .int .i64 (G i 7), .int .i64 (G i 8), .int .i64 (G i 9), .string (T i 10), .string (T i 11)] 23) = w0 at *
      generalize wr.heap.size = g at *
      have m1 : w0.cell? ⟨g, 1, none⟩ = some (.int .i64 (G i 1)) := b7.cell 1
      have m2 : w0.cell? ⟨g, 2, none⟩ = some (.int .i64 (G i 2)) := b7.cell 2
      have m3 : w0.cell? ⟨g, 3, none⟩ = some (.int .i64 (G i 3)) := b7.cell 3
      have m4 : w0.cell? ⟨g, 4, none⟩ = some (.int .i64 (G i 4)) := b7.cell 4
      have m5 : w0.cell? ⟨g, 5, none⟩ = some (.int .i64 (G i 5)) := b7.cell 5
      have m6 : w0.cell? ⟨g, 6, none⟩ = some (.int .i64 (G i 6)) := b7.cell 6
      have m7 : w0.cell? ⟨g, 7, none⟩ = some (.int .i64 (G i 7)) := b7.cell 7
      have m8 : w0.cell? ⟨g, 8, none⟩ = some (.int .i64 (G i 8)) := b7.cell 8
      have m9 : w0.cell? ⟨g, 9, none⟩ = some (.int .i64 (G i 9)) := b7.cell 9
      have m10 : w0.cell? ⟨g, 10, none⟩ = some (.string (T i 10)) := b7.cell 10
      have v2 := hide (fun wx => within_any (G i 2) 0 7 wx (Hwf.out i 2 hin (by omega)) (by omega) (by omega) (by omega))
      have v3 := hide (fun wx => within_any (G i 3) (-2000) 2000 wx (Hwf.out i 3 hin (by omega)) (by omega) (by omega) (by omega))
      have v4 := hide (fun wx => within_any (G i 4) (-2000) 2000 wx (Hwf.out i 4 hin (by omega)) (by omega) (by omega) (by omega))
      have v5 := hide (fun wx => within_any (G i 5) 0 1500 wx (Hwf.out i 5 hin (by omega)) (by omega) (by omega) (by omega))
      have v6 := hide (fun wx => within_any (G i 6) 0 1500 wx (Hwf.out i 6 hin (by omega)) (by omega) (by omega) (by omega))
      have v7 := hide (fun wx => within_any (G i 7) 0 3599 wx (Hwf.out i 7 hin (by omega)) (by omega) (by omega) (by omega))
      have v8 := hide (fun wx => within_any (G i 8) 0 11 wx (Hwf.out i 8 hin (by omega)) (by omega) (by omega) (by omega))
      have v9 := hide (fun wx => within_any (G i 9) 0 11 wx (Hwf.out i 9 hin (by omega)) (by omega) (by omega) (by omega))
      have hwr : IntKind.i64.wrap ((i : Int) + 1) = (i : Int) + 1 := IntWalk.i64_in _ (by omega)
      go_cut [8] (fun p wc => ∃ gx, p = .pointer (some ⟨gx, 0, none⟩) ∧ Xat i g gx G T turns (.slice A5 i c5) (xC i (T i 10) (wi (G i 2) 0 7) (wi (G i 3) (-2000) 2000) (wi (G i 4) (-2000) 2000) (wi (G i 5) 0 1500) (wi (G i 6) 0 1500) 0 0 0 0) w wc)
      case first =>
        have hnx : w0.heap.size ≠ g ∧ w.heap.size ≤ w0.heap.size ∧ some w0.heap.size ≠ (Value.slice A5 i c5).ownBlock := ⟨by have := b7.lt; omega, hb7.size, fun hh => by have := (ho7.lt _ hh.symm).2; omega⟩
        have Hnx := hide hnx
        clear hnx
        go_region_held3 (fun w' => w'.cell? ⟨g, 2, none⟩ = some (.int .i64 (G i 2)) ∧ w'.cell? ⟨g, 3, none⟩ = some (.int .i64 (G i 3)) ∧ w'.cell? ⟨g, 4, none⟩ = some (.int .i64 (G i 4)) ∧ w'.cell? ⟨g, 5, none⟩ = some (.int .i64 (G i 5)) ∧ w'.cell? ⟨g, 6, none⟩ = some (.int .i64 (G i 6)) ∧ w'.cell? ⟨g, 10, none⟩ = some (.string (T i 10)))
          (first | go_keep | exact ⟨m2, m3, m4, m5, m6, m10⟩)
          ((go_at_call 11; first | ((with_reducible refine (v2.out _).mono ?_); rintro e w1 ⟨rfl, rfl⟩) | ((with_reducible refine (v3.out _).mono ?_); rintro e w1 ⟨rfl, rfl⟩) | ((with_reducible refine (v4.out _).mono ?_); rintro e w1 ⟨rfl, rfl⟩) | ((with_reducible refine (v5.out _).mono ?_); rintro e w1 ⟨rfl, rfl⟩) | ((with_reducible refine (v6.out _).mono ?_); rintro e w1 ⟨rfl, rfl⟩)))
        all_goals
          go_wp2_with fail
          go_meet
          exact ⟨w0.heap.size, rfl, (Blk.new w0 _ _).drewN 1, (b7.alloc _).drewN 1, ho7.alloc _, below_drewN (hb7.alloc hb7.size _) 1, Hnx.out⟩
      case rest =>
        obtain ⟨gx, rfl, hx⟩ := hcut
        clear hwr m1 m2 m3 m4 m5 m6 m7 m8 m9 m10 b7 hb7 ho7 v2 v3 v4 v5 v6
        go_upto_if 44 with fail
        go_cut [] (fun wc => Xat i g gx G T turns (.slice A5 i c5) (xC i (T i 10) (wi (G i 2) 0 7) (wi (G i 3) (-2000) 2000) (wi (G i 4) (-2000) 2000) (wi (G i 5) 0 1500) (wi (G i 6) 0 1500) 0 (sturn G turns i) 0 0) w wc)
        case first =>
          cases turns
          · go_wp2_with fail
            go_meet
            exact hx
          · have m7 : wc.cell? ⟨g, 7, none⟩ = some (.int .i64 (G i 7)) := hx.bs.cell 7
            have x7 : wc.cell? ⟨gx, 7, none⟩ = some (.int .i64 0) := hx.bx.cell 7
            have z7 : wc.frozen? ⟨gx, 7, none⟩ = false := hx.bx.frozen 7
            go_wp2_with (go_at_call 11; (with_reducible refine (v7.out _).mono ?_); rintro e w1 ⟨rfl, rfl⟩)
            go_meet
            exact hx.set_ 7 (.int .i64 (wi (G i 7) 0 3599)) (by simp [xC, sturn])
        case rest =>
          clear hx v7
          have hx := hcut
          clear hcut
          go_upto_region 9 with fail
          go_cut [56] (fun v wc' => v = .bool (sask G i) ∧ wc = wc')
          case first =>
            have m1 : wc.cell? ⟨g, 1, none⟩ = some (.int .i64 (G i 1)) := hx.bs.cell 1
            have hsk := hide (show sask G i = decide (0 < i ∧ (G i 1).tmod 3 = 0) from rfl)
            clear hx
            by_cases h0 : 0 < i
            · have d0 : decide ((i : Int) > 0) = true := by simp; omega
              by_cases h3 : (G i 1).tmod 3 = 0
              · have d3 : ((G i 1).tmod 3 == 0) = true := by simpa using h3
                have H3 := hide h3
                clear h3
                go_wp2_with fail
                go_meet
                exact ⟨by rw [hsk.out]; simp [h0, H3.out], rfl⟩
              · have d3 : ((G i 1).tmod 3 == 0) = false := by simpa using h3
                have H3 := hide h3
                clear h3
                go_wp2_with fail
                go_meet
                exact ⟨by rw [hsk.out]; simp [h0, H3.out], rfl⟩
            · have hi0 : i = 0 := by omega
              have d0 : decide ((i : Int) > 0) = false := by simp; omega
              have Hi0 := hide hi0
              clear hi0
              go_wp2_with fail
              go_meet
              exact ⟨by rw [hsk.out]; simp [h0], rfl⟩
          case rest =>
            obtain ⟨rfl, rfl⟩ := hcut
            go_upto_if 56 with fail
            go_cut [] (fun wc => Xat i g gx G T turns (.slice A5 i c5) (xC i (T i 10) (wi (G i 2) 0 7) (wi (G i 3) (-2000) 2000) (wi (G i 4) (-2000) 2000) (wi (G i 5) 0 1500) (wi (G i 6) 0 1500) (spar G i) (sturn G turns i) 0 0) w wc)
            case first =>
              have m1 : wc.cell? ⟨g, 1, none⟩ = some (.int .i64 (G i 1)) := hx.bs.cell 1
              have x1 : wc.cell? ⟨gx, 1, none⟩ = some (.int .i64 0) := hx.bx.cell 1
              have z1 : wc.frozen? ⟨gx, 1, none⟩ = false := hx.bx.frozen 1
              have hsp : spar G i = if sask G i = true ∧ skind G (spk G i).toNat = 5 then spk G i + 1 else 0 := by simp [spar, sask, and_assoc]
              have hsa : sask G i = true → 0 < i := by simp [sask]; omega
              cases hq : sask G i with
              | false =>
                have Hsp := hide hsp
                have Hq := hide hq
                clear hsp hq hsa
                go_wp2_with fail
                go_meet
                exact cast_xat (by rw [Hsp.out, Hq.out]; simp) hx
              | true =>
                have h0 : 0 < i := hsa hq
                have hkb := wi_bd ((G i 1).tdiv 3) (show (0 : Int) ≤ (i : Int) - 1 by omega)
                have hgw1 := tdiv3_wf (Hwf.out i 1 hin (by omega))
                have vk := hide (fun wx => within_any ((G i 1).tdiv 3) 0 ((i : Int) - 1) wx hgw1.1 (by omega) (by omega) (by omega))
                have hspk : spk G i = wi ((G i 1).tdiv 3) 0 ((i : Int) - 1) := rfl
                obtain ⟨k, hk⟩ : ∃ k : Nat, (k : Int) = wi ((G i 1).tdiv 3) 0 ((i : Int) - 1) := ⟨(wi ((G i 1).tdiv 3) 0 ((i : Int) - 1)).toNat, by omega⟩
                have hki : k < i := by omega
                rw [← hk] at vk hspk
                obtain ⟨b5, o5, hA5, hc5⟩ := (RdF.of_own hx.own).at_ hki
                have e2 : wc.cell? ⟨b5, o5 + k * 12 + 2, none⟩ = some (.int .i64 (skind G k)) := hc5 2 (by omega)
                subst hA5
                have Hsp := hide hsp
                have Hq := hide hq
                have Hspk := hide hspk
                have hki2 : (k : Int) < (i : Int) := by omega
                have hw2 : IntKind.i64.wrap ((G i 1).tdiv 3) = (G i 1).tdiv 3 := hgw1.2
                clear hsp hq hsa hc5 hspk hk hkb hgw1
                by_cases h5 : skind G k = 5
                · have d5 : (skind G k == 5) = true := by simpa using h5
                  have H5 := hide h5
                  clear h5
                  go_wp2_with (go_at_call 11; (with_reducible refine (vk.out _).mono ?_); rintro e w1 ⟨rfl, rfl⟩)
                  go_meet
                  exact hx.set_ 1 (.int .i64 ((k : Int) + 1)) (by simp [xC, Hsp.out, Hq.out, Hspk.out, H5.out])
                · have d5 : (skind G k == 5) = false := by simpa using h5
                  have H5 := hide h5
                  clear h5
                  go_wp2_with (go_at_call 11; (with_reducible refine (vk.out _).mono ?_); rintro e w1 ⟨rfl, rfl⟩)
                  go_meet
                  exact cast_xat (by rw [Hsp.out, Hq.out, Hspk.out]; simp [H5.out]) hx
            case rest =>
              clear hx
              have hx := hcut
              clear hcut
              have x2 : wc.cell? ⟨gx, 2, none⟩ = some (.int .i64 (wi (G i 2) 0 7)) := hx.bx.cell 2
              go_upto_if 74 with fail
              go_cut [] (fun wc => Xat i g gx G T turns (.slice A5 i c5) (xC i (T i 10) (wi (G i 2) 0 7) (wi (G i 3) (-2000) 2000) (wi (G i 4) (-2000) 2000) (wi (G i 5) 0 1500) (wi (G i 6) 0 1500) (spar G i) (sturn G turns i) (send G i 8) (send G i 9)) w wc)
              case first =>
                have m8 : wc.cell? ⟨g, 8, none⟩ = some (.int .i64 (G i 8)) := hx.bs.cell 8
                have m9 : wc.cell? ⟨g, 9, none⟩ = some (.int .i64 (G i 9)) := hx.bs.cell 9
                have w8 : wc.cell? ⟨gx, 8, none⟩ = some (.int .i64 0) := hx.bx.cell 8
                have w9 : wc.cell? ⟨gx, 9, none⟩ = some (.int .i64 0) := hx.bx.cell 9
                have z8 : wc.frozen? ⟨gx, 8, none⟩ = false := hx.bx.frozen 8
                have z9 : wc.frozen? ⟨gx, 9, none⟩ = false := hx.bx.frozen 9
                have hgx := hx.ne.1
                have hs8 : send G i 8 = if wi (G i 2) 0 7 = 6 then wi (G i 8) 0 11 else 0 := rfl
                have hs9 : send G i 9 = if wi (G i 2) 0 7 = 6 then wi (G i 9) 0 11 else 0 := rfl
                by_cases h6 : wi (G i 2) 0 7 = 6
                · have d6 : (wi (G i 2) 0 7 == 6) = true := by simpa using h6
                  rw [if_pos h6] at hs8 hs9
                  have S8 := hide hs8
                  have S9 := hide hs9
                  clear hs8 hs9 h6
                  go_upto_region 14 with fail
                  go_region_held3 (fun w' => w'.cell? ⟨g, 8, none⟩ = some (.int .i64 (G i 8)) ∧ w'.cell? ⟨g, 9, none⟩ = some (.int .i64 (G i 9)))
                    (first | go_keep | exact ⟨m8, m9⟩)
                    ((go_at_call 11; first | ((with_reducible refine (v8.out _).mono ?_); rintro e w1 ⟨rfl, rfl⟩) | ((with_reducible refine (v9.out _).mono ?_); rintro e w1 ⟨rfl, rfl⟩)))
                  all_goals
                    go_wp2_with fail
                    go_meet
                    exact cast_xat2 S8.out S9.out (((hx.drewN 1).set_ 8 (.int .i64 (wi (G i 8) 0 11)) rfl).set_ 9 (.int .i64 (wi (G i 9) 0 11)) (by simp [xC]))
                · have d6 : (wi (G i 2) 0 7 == 6) = false := by simpa using h6
                  rw [if_neg h6] at hs8 hs9
                  have S8 := hide hs8
                  have S9 := hide hs9
                  clear hs8 hs9 h6
                  go_wp2_with fail
                  go_meet
                  exact cast_xat2 S8.out S9.out hx
              case rest =>
                clear hx x2 v8 v9
                have hx := hcut
                clear hcut
                have y0 : wc.cell? ⟨gx, 0, none⟩ = some (.int .i64 ((i : Int) + 1)) := hx.bx.cell 0
                have y1 : wc.cell? ⟨gx, 1, none⟩ = some (.int .i64 (spar G i)) := hx.bx.cell 1
                have y2 : wc.cell? ⟨gx, 2, none⟩ = some (.int .i64 (wi (G i 2) 0 7)) := hx.bx.cell 2
                have y3 : wc.cell? ⟨gx, 3, none⟩ = some (.int .i64 (wi (G i 3) (-2000) 2000)) := hx.bx.cell 3
                have y4 : wc.cell? ⟨gx, 4, none⟩ = some (.int .i64 (wi (G i 4) (-2000) 2000)) := hx.bx.cell 4
                have y5 : wc.cell? ⟨gx, 5, none⟩ = some (.int .i64 (wi (G i 5) 0 1500)) := hx.bx.cell 5
                have y6 : wc.cell? ⟨gx, 6, none⟩ = some (.int .i64 (wi (G i 6) 0 1500)) := hx.bx.cell 6
                have y7 : wc.cell? ⟨gx, 7, none⟩ = some (.int .i64 (sturn G turns i)) := hx.bx.cell 7
                have y8 : wc.cell? ⟨gx, 8, none⟩ = some (.int .i64 (send G i 8)) := hx.bx.cell 8
                have y9 : wc.cell? ⟨gx, 9, none⟩ = some (.int .i64 (send G i 9)) := hx.bx.cell 9
                have y10 : wc.cell? ⟨gx, 10, none⟩ = some (.string (T i 10)) := hx.bx.cell 10
                have y11 : wc.cell? ⟨gx, 11, none⟩ = some (.string ⟨#[]⟩) := hx.bx.cell 11
                have hsz : gx < wc.heap.size := hx.bx.lt
                go_wp2_with (at_builtin; refine wpL_append rfl rfl Tryd.underlying25 shape_info rfl (by decide) rfl rfl (hx.own.alloc _) (news_at _ _ _ _ (by simp)) rfl (by simp [Value.oneCell']) (by omega) (by omega) (by have := hx.bel.size; simp; omega) ?_; intro v1 w3 hown3 hgrow3)
                exact ⟨⟨i + 1, by omega, by simp, by rw [rowF_succ]; exact hown3, below_app (hx.bel.alloc hx.bel.size _) (by have := hx.bel.size; simp; omega) (hx.own.alloc _) hgrow3⟩, by simp only [intOf]; omega⟩
    · obtain rfl : i = min n 10 := by omega
      by_cases h10 : n < 10
      · have e1 : min n 10 = n := by omega
        rw [e1] at hown ⊢
        have He := hide e1
        clear e1 hi hlt
        have d1 : decide ((n : Int) < (n : Int)) = false := by simp
        go_wp2_with fail
        go_ret
        exact ⟨A5, c5, by rw [He.out]; rfl, by rw [He.out]; exact hown, hbl⟩
      · have e1 : min n 10 = 10 := by omega
        rw [e1] at hown ⊢
        have He := hide e1
        clear e1 hi hlt
        go_wp2_with fail
        all_goals
          go_ret
          exact ⟨A5, c5, by rw [He.out]; rfl, by rw [He.out]; exact hown, hbl⟩
end Go.Proofs.YtnmikhmbnpiadaaDoor.Shp
