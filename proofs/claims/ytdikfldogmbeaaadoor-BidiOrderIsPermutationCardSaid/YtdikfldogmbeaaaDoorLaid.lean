/- The frame of a law's proof where the row lists package-level variables. Nothing here speaks of a program. -/
import Derived.Test.YtdikfldogmbeaaaDoorArgs
import Derived.LaidMore
import Derived.SevenTiedAt
namespace Go.Frm
open Go.RowKit Go.ChangeShapes Go.WideShapes Go.ChangeAt Go.Deep

def WalkedL (P : Program) (k : FuncId) (fn : Func) (laid : List (String × DataW Unit)) : Prop :=
  ∀ (H : Type) (enc : TypeId × Value → H) (W : World) (args : Array Value) (ds : List (DataW H)) (ps : List MemPlace),
    (∀ (j : Nat) (t : TypeId) (v : Value), fn.params[j]? = some t → args[j]? = some v → Value.okWide P W .any 0 t v) →
    DataW.TrodAll enc P W 0 (fun _ => true) true fn.params.toList args.toList ds ps → laidMetH P laid W →
    Calls P k args W fun e w' => e = .returned (.bool true) ∧ Below W.heap.size W w'

theorem law_lift_laid {H : Type} {enc : TypeId × Value → H} {C : Checked} {os : Os} {k : FuncId} {fn : Func} {s : ChangeSpec} {tb : TypeId} {laid : List (String × DataW Unit)}
    (own : ownKnob C.prog.godebug = none) (started : os.Started) (hi : C.prog.inits.idxOf? k = none) (hfn : C.prog.funcs[k]? = some fn)
    (hv : s.vars = []) (hs : ∀ ds : List (DataW H), ds.length = fn.params.toList.length → s.fn H ds = { results := [.lit (.bool true)], args := ds })
    (hres : fn.resultTypes = #[tb]) (hb : C.prog.underlying tb = some .bool) (hl : laidOutB C.prog = true)
    (hall : fn.params.toList.all (fun t => C.prog.readableRec t && decide (t < C.prog.types.size)) = true)
    (wit : ∃ (w : World) (tape : Tape) (i : Input), w.os = os ∧ (w.forCall tape i).Shaped C.prog ∧ i.vars = [] ∧ Input.okWide C.prog (w.forCall tape i) .any w.heap.size k i ∧
      ((s.pre enc C.prog fn [] false (w.forCall tape i).memory i.args ∧ laidMetH C.prog laid (w.forCall tape i).memory) ∧ sizedMet enc C.prog fn (OpenSpec.ofChange s) false (w.forCall tape i).memory i.args) ∧ ({} : Assume).holds C.prog (lone (Frame.enter C.prog k i.args .normal) [] (w.forCall tape i)))
    (walk : WalkedL C.prog k fn laid) :
    ReturnsInHanded {} C os k .any (fun w args => (s.pre enc C.prog fn [] false w args ∧ laidMetH C.prog laid w) ∧ sizedMet enc C.prog fn (OpenSpec.ofChange s) false w args) (s.post enc C.prog fn false true false false) := by
  refine returnsInHanded_of_change_and (C := C) (X := fun w _ => laidMetH C.prog laid w) (fun _ _ _ hh h => h.of_heap hh) own started hi hfn wit ?_
  intro W base args ds gs before hval0 hW _ _ hL _
  have hW' := hW
  obtain ⟨p, q, hA, hV, rfl, hfz, hnd⟩ := hW
  have hg : gs = [] ∧ q = [] := by
    rw [hv] at hV
    match gs, hV with
    | [], h => exact ⟨rfl, h⟩
  obtain ⟨rfl, rfl⟩ := hg
  have hval : ∀ (j : Nat) (t : TypeId) (v : Value), fn.params[j]? = some t → args[j]? = some v → Value.okWide C.prog W .any 0 t v := fun j t v h1 h2 => okWide_any (hval0 j t v h1 h2)
  refine (walk H enc W args ds p hval hA hL).mono fun e W' ⟨he, bel⟩ => ?_
  subst he
  have hfn' := hs ds (trodAll_length _ _ _ _ hA)
  refine ⟨_, rfl, ds, [], p ++ [], [], p, [], hW', ?_, ?_, ?_, bel.frame _, fun h => by cases h⟩
  · rw [List.append_nil, hfn', hres]
    exact trodAll_mk1 (shut_bool hb _)
  · rw [List.append_nil, hfn']
    exact below_trodAll hl bel _ _ _ _ hall hA (trodAll_lt _ _ _ _ hA)
  · rw [List.append_nil, hfn', hv]
    exact rfl

/-- a table of rows of numbers -/
def tbV (tb : List (List Int)) (i j : Nat) : Int := (tb.getD i []).getD j 0
def tbD {H : Type} (tb : List (List Int)) : DataW H := .slice (tb.map fun r => .agg (r.map fun x => .lit (.int .i64 x))) []

section
variable {H : Type} {enc : TypeId × Value → H} {P : Program} {w : World} {base : Nat} {held : Bool}
/-- a variable that reads as such a table -/
theorem laid_rows {t e : TypeId} {fs : Array Field} {fuel : Nat} {cs : List Value} {p : List MemPlace} (tb : List (List Int)) (ht : P.underlying t = some (.slice e)) (he : P.underlying e = some (.struct fs))
    (hone : oneCellFields P fs = true) (hC : P.cellsOf e = fs.size) (h0f : 0 < fs.size) (hint : ∀ (j : Nat) (f : Field), fs[j]? = some f → P.underlying f.type = some (.int .i64)) (hn : tb ≠ [])
    (h : DataW.trod enc P w base (fun _ => true) held fuel t cs = some (tbD tb, p)) :
    ∃ (A : Option Addr) (c : Nat), cs = [.slice A tb.length c] ∧ RdF w A tb.length fs.size (fun i j => .int .i64 (tbV tb i j)) := by
  rcases open_slice ht h with ⟨_, hx⟩ | ⟨a, len, cap, m, n, D, Pl, hcs, hb, hl, hm, hmm, hx, hi⟩
  · simp [tbD] at hx
  · subst hcs
    have hx1 := congrArg Prod.fst hx
    simp only [tbD, DataW.slice.injEq] at hx1
    obtain ⟨hL, _⟩ := hx1
    have hlen : tb.length = len := by have := congrArg List.length hL; simpa using this
    subst hlen
    have hD : ∀ i, i < tb.length → D i = .agg ((tb.getD i []).map fun x => .lit (.int .i64 x)) := fun i hi => by
      have h1 := congrArg (fun l => l[i]?) hL
      simp [hi] at h1
      rw [← h1]
      simp [hi]
    have hrow : ∀ i, i < tb.length → ∀ j, j < fs.size → w.cell? ((a.add (i * fs.size)).add j) = some (.int .i64 (tbV tb i j)) := by
      intro i hil j hj
      obtain ⟨cs', hc, ht'⟩ := hi i (by rw [hmm]; simp; omega)
      obtain ⟨_, hcl, hat⟩ := World.cells?_some hc
      rw [hC] at hat hcl
      rw [hat j hj]
      obtain ⟨ys, m', _, hy, hlen, hyl, hf⟩ := DataW.trod_struct he ht'
      have hj' := Array.getElem?_eq_getElem hj
      obtain ⟨ho, hk⟩ := hone_of hone j _ hj'
      have h1 := hf j _ hj'
      rw [ho, hk] at h1
      have hjc : j < cs'.length := by omega
      have hd : (cs'.drop j).take 1 = [cs'[j]] := by rw [List.drop_eq_getElem_cons hjc]; rfl
      rw [hd, List.getElem?_eq_getElem (by omega)] at h1
      obtain ⟨z, hz, hzy, _⟩ := DataW.trod_int (hint j _ hj') h1
      have h2 := congrArg Prod.fst hy
      simp only at h2
      rw [hD i hil] at h2
      simp only [DataW.agg.injEq] at h2
      have h3 := congrArg (fun l => l[j]?) h2
      simp only [List.getElem?_map, List.getElem?_eq_getElem (show j < ys.length by omega), Option.map_some] at h3
      rw [hzy] at h3
      have h4 : (tb.getD i [])[j]? = some z := by
        cases hq : (tb.getD i [])[j]? with
        | none => rw [hq] at h3; cases h3
        | some u =>
          rw [hq] at h3
          simp at h3
          rw [h3]
      have h5 : tbV tb i j = z := by unfold tbV; rw [List.getD_eq_getElem?_getD, h4]; rfl
      rw [h5, List.getElem?_eq_getElem hjc]
      simp at hz
      rw [hz]
    refine ⟨some a, cap, rfl, ?_⟩
    · right
      have h0 := hrow 0 (by cases tb with | nil => exact absurd rfl hn | cons => simp) 0 h0f
      obtain ⟨b, off, spot⟩ := a
      have hspot : spot = none := by
        have := World.cell?_spot h0
        simpa [Addr.add] using this
      subst hspot
      refine ⟨b, off, rfl, fun i j hi hj => ?_⟩
      have h1 := hrow i hi j hj
      rw [Addr.add_lit, Addr.add_lit] at h1
      exact h1
end
end Go.Frm
