/- The listed tables of package bidi: what a row that lists them gives. -/
import Derived.Test.YtdikfldogmbeaaaDoorLaid
import Derived.Test.YtdikfldogmbeaaaDoorBdBrk
import Derived.Test.YtdikfldogmbeaaaDoorBdClass
import Derived.OpenShut
namespace Go.Frm
open Go.RowKit Go.ChangeShapes Go.WideShapes Go.ChangeAt Go.Deep
section
variable {H : Type} {enc : TypeId × Value → H} {P : Program} {w : World} {base : Nat} {held : Bool}
/-- a variable that reads as a table of arrays -/
theorem laid_arrs {t e ei : TypeId} {size : Nat} {fuel : Nat} {cs : List Value} {p : List MemPlace} (tb : List (List Int)) (ht : P.underlying t = some (.slice e)) (he : P.underlying e = some (.array size ei))
    (hC : P.cellsOf e = size) (hCi : P.cellsOf ei = 1) (h0f : 0 < size) (hint : P.underlying ei = some (.int .i64)) (hn : tb ≠ [])
    (h : DataW.trod enc P w base (fun _ => true) held fuel t cs = some (tbD tb, p)) :
    ∃ (A : Option Addr) (c : Nat), cs = [.slice A tb.length c] ∧ tb.length ≤ c ∧ c ≤ maxLen ∧ RdF w A tb.length size (fun i j => .int .i64 (tbV tb i j)) := by
  rcases open_slice ht h with ⟨_, hx⟩ | ⟨a, len, cap, m, n, D, Pl, hcs, hb, hl, hm, hmm, hx, hi⟩
  · simp [tbD] at hx
  · subst hcs
    have hx1 := congrArg Prod.fst hx
    simp only [tbD, DataW.slice.injEq] at hx1
    obtain ⟨hL, _⟩ := hx1
    have hlen : tb.length = len := by have := congrArg List.length hL; simpa using this
    subst hlen
    have hD : ∀ i, i < tb.length → D i = .agg ((tb.getD i []).map fun x => .lit (.int .i64 x)) := fun i hi => by
      have h1 := congrArg (fun l => l[i]?) hL
      simp [hi] at h1
      rw [← h1]
      simp [hi]
    have hrow : ∀ i, i < tb.length → ∀ j, j < size → w.cell? ((a.add (i * size)).add j) = some (.int .i64 (tbV tb i j)) := by
      intro i hil j hj
      obtain ⟨cs', hc, ht'⟩ := hi i (by rw [hmm]; simp; omega)
      obtain ⟨_, hcl, hat⟩ := World.cells?_some hc
      rw [hC] at hat hcl
      rw [hat j hj]
      obtain ⟨ys, m', _, hy, hlen, hyl, hf⟩ := DataW.trod_array he ht'
      have h1 := hf j hj
      rw [hCi, Nat.mul_one] at h1
      have hjc : j < cs'.length := by omega
      have hd : (cs'.drop j).take 1 = [cs'[j]] := by rw [List.drop_eq_getElem_cons hjc]; rfl
      rw [hd, List.getElem?_eq_getElem (by omega)] at h1
      obtain ⟨z, hz, hzy, _⟩ := DataW.trod_int hint h1
      have h2 := congrArg Prod.fst hy
      simp only at h2
      rw [hD i hil] at h2
      simp only [DataW.agg.injEq] at h2
      have h3 := congrArg (fun l => l[j]?) h2
      simp only [List.getElem?_map, List.getElem?_eq_getElem (show j < ys.length by omega), Option.map_some] at h3
      rw [hzy] at h3
      have h4 : (tb.getD i [])[j]? = some z := by
        cases hq : (tb.getD i [])[j]? with
        | none => rw [hq] at h3; cases h3
        | some u =>
          rw [hq] at h3
          simp at h3
          rw [h3]
      have h5 : tbV tb i j = z := by unfold tbV; rw [List.getD_eq_getElem?_getD, h4]; rfl
      rw [h5, List.getElem?_eq_getElem hjc]
      simp at hz
      rw [hz]
    refine ⟨some a, cap, rfl, hl, hm, ?_⟩
    · right
      have h0 := hrow 0 (by cases tb with | nil => exact absurd rfl hn | cons => simp) 0 h0f
      obtain ⟨b, off, spot⟩ := a
      have hspot : spot = none := by
        have := World.cell?_spot h0
        simpa [Addr.add] using this
      subst hspot
      refine ⟨b, off, rfl, fun i j hi hj => ?_⟩
      have h1 := hrow i hi j hj
      rw [Addr.add_lit, Addr.add_lit] at h1
      exact h1
end
end Go.Frm
namespace Go.Proofs.YtdikfldogmbeaaaDoor.Bd
open Go.RowKit Go.Frm Go.ChangeShapes Go.WideShapes Go.ChangeAt Go.Deep
theorem gTable : Tryd.prog.globalNamed "chancery/bidi.table" = some 0 := by kernel_rfl
theorem tTable : (Tryd.prog.globals[0]?).map (·.type) = some 49 := by kernel_rfl
theorem gBrack : Tryd.prog.globalNamed "chancery/bidi.brackets" = some 1 := by kernel_rfl
theorem tBrack : (Tryd.prog.globals[1]?).map (·.type) = some 67 := by kernel_rfl
theorem tabs_of {W : World} {l : List (String × DataW Unit)} (hl : ∃ d d2 r, l = ("chancery/bidi.table", d) :: ("chancery/bidi.brackets", d2) :: r ∧ d = tbD clsTb ∧ d2 = tbD brTb) (hp : (l.all fun x => x.2.handleName?.isNone) = true) (h : laidMetH Tryd.prog l W) : TabC W ∧ BrC W := by
  obtain ⟨d, d2, r, rfl, hd, hd2⟩ := hl
  subst hd hd2
  rw [MakeChecks.laidMetH_plain _ _ _ hp] at h
  obtain ⟨ps, ⟨g0, t0, cs0, f0, p0, q0, hg0, ht0, hv0, hd0, ⟨g1, t1, cs1, f1, p1, q1, hg1, ht1, hv1, hd1, _⟩, _⟩, _, _⟩ := h
  obtain rfl := Option.some.inj (gTable.symm.trans hg0)
  obtain rfl := Option.some.inj (tTable.symm.trans ht0)
  obtain rfl := Option.some.inj (gBrack.symm.trans hg1)
  obtain rfl := Option.some.inj (tBrack.symm.trans ht1)
  constructor
  · obtain ⟨A, c, hcs, hr⟩ := laid_rows clsTb Tryd.underlying49 Tryd.underlying51 (by kernel_rfl) (by kernel_rfl) (by decide) (fun j f hj => by
      match j, hj with
      | 0, hj => cases hj; exact Tryd.underlying3
      | 1, hj => cases hj; exact Tryd.underlying3
      | 2, hj => cases hj; exact Tryd.underlying3) (by decide) hd0
    refine ⟨A, c, ?_, hr⟩
    have h1 := World.var?_cell gTable hv0 0
    rw [Array.eq_one_of_toList hcs] at h1
    have h2 : W.cell? ⟨0, 0, none⟩ = some (Value.slice A clsTb.length c) := by simpa using h1
    exact h2
  · obtain ⟨A, c, hcs, hc1, hc2, hr⟩ := laid_arrs brTb Tryd.underlying67 Tryd.underlying69 (by kernel_rfl) (by kernel_rfl) (by decide) Tryd.underlying3 (by decide) hd1
    refine ⟨A, c, ?_, hc1, hc2, hr⟩
    have h1 := World.var?_cell gBrack hv1 0
    rw [Array.eq_one_of_toList hcs] at h1
    have h2 : W.cell? ⟨1, 0, none⟩ = some (Value.slice A brTb.length c) := by simpa using h1
    exact h2
end Go.Proofs.YtdikfldogmbeaaaDoor.Bd
