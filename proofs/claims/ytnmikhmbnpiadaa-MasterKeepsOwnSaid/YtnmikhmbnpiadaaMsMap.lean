/- Maps that a call makes: a look-up at elements that are bools, the store of a literal, and a set of strings told by a test. Nothing here speaks of a program. -/
import Derived.Test.YtnmikhmbnpiadaaSlices
import Derived.Maps.OwnSet
namespace Go.Frm
open Go.Maps Go.RowKit

theorem plain_bool_inv {H : Type} {P : Program} {e : TypeId} (he : P.underlying e = some .bool) {v : Value} {z : DataW H × List MemPlace} (h : plainElem P e v = some z) : ∃ x, v = .bool x ∧ z = (.lit (.bool x), []) := by
  unfold plainElem at h
  rw [he] at h
  cases v <;> simp at h
  exact ⟨_, rfl, h.symm⟩

/-- 'm[k]' at elements that are bools -/
theorem look_bool {H : Type} {P : Program} {k t e : TypeId} {w : World} {b n : Nat} {D : DataW H} (h : w.ownsMap P k (plainElem P e) b n D) (K : Keyed P k) (ht : P.underlying t = some (.map k e)) (he : P.underlying e = some .bool)
    (hz : (zeroValue e).run P w = .ok (.bool false) w) {key : Value} {kl : Lit} (hkey : keyOf P k key = some kl) : ∃ x, (Instr.lookup t (.map (some b)) key false).run P w = .ok (.bool x) w := by
  obtain ⟨v, ps, hrun, hv⟩ := h.lookup K ht hz (plainElem_bool he false) hkey
  obtain ⟨x, rfl, _⟩ := plain_bool_inv he hv
  exact ⟨x, hrun⟩

/-- an entry of a map literal -/
theorem wpL_insert {H : Type} {P : Program} (w : World) {ops : Array Oper} {rest : List Oper} {o : Oper} {a : Act} {Q : Exit → Act → World → Prop}
    (hg : o.guard = none) (m x v : Operand) (t : TypeId) (hop : o.op = Op.insert t m x v)
    (k e : TypeId) (K : Keyed P k) (ht : P.underlying t = some (.map k e)) (R : Value → Option (DataW H × List MemPlace)) (b n : Nat) (D : DataW H)
    (hm : a.eval m = .map (some b)) (hown : w.ownsMap P k R b n D) (hn : n < maxLen) (key val : Value) (kl : Lit) (hx : a.eval x = key) (hv : a.eval v = val) (hkey : keyOf P k key = some kl)
    (d : DataW H) (ps : List MemPlace) (hval : R val = some (d, ps))
    (hK : ∀ w', w'.ownsMap P k R b (n + 1) (D.put kl d) → w.grownBy w' (some b) → wpList P ops Q rest (a.put o.dst undef) w') :
    wpList P ops Q (o :: rest) a w := by
  refine wpList_plain hg fun K' hK' => ?_
  obtain ⟨w', hrun, r1, r2⟩ := hown.update K ht hn hkey hval
  unfold Oper.wp
  simp [execOp, hop, hm, hx, hv, hrun, Result.andThen]
  exact hK' _ _ (hK w' r1 r2)

/-- a store into a map, as one equation of its run -/
theorem upd_run {H : Type} {P : Program} {k t e : TypeId} {R : Value → Option (DataW H × List MemPlace)} {w : World} {b n : Nat} {D : DataW H} (h : w.ownsMap P k R b n D) (K : Keyed P k) (ht : P.underlying t = some (.map k e)) (hn : n < maxLen) {key val : Value} {kl : Lit} {d : DataW H} {ps : List MemPlace}
    (hkey : keyOf P k key = some kl) (hv : R val = some (d, ps)) : ∃ w', (Instr.mapUpdate t (.map (some b)) key val).run P w = .ok () w' ∧ w'.ownsMap P k R b (n + 1) (D.put kl d) ∧ w.grownBy w' (some b) := h.update K ht hn hkey hv

/-- a map from strings to numbers: 1 where the test holds, else 0 -/
def SetIs (D : DataW Unit) (f : ByteArray → Bool) : Prop := IsMap D ∧ ∀ s : ByteArray, D.atKey (.string s.data.toList) (.lit (.int .i64 0)) = .lit (.int .i64 (if f s then 1 else 0))
theorem setIs_empty : SetIs (.map []) fun _ => false := ⟨isMap_empty, fun _ => rfl⟩
theorem SetIs.congr {D : DataW Unit} {f g : ByteArray → Bool} (h : SetIs D f) (hg : ∀ s, f s = g s) : SetIs D g := ⟨h.1, fun s => by rw [← hg s]; exact h.2 s⟩
theorem SetIs.put {D : DataW Unit} {f : ByteArray → Bool} (h : SetIs D f) (nm : ByteArray) : SetIs (D.put (.string nm.data.toList) (.lit (.int .i64 1))) fun s => decide (nm = s) || f s := by
  refine ⟨h.1.put _ _, fun s => ?_⟩
  by_cases hs : nm = s
  · subst hs
    rw [atKey_put_same h.1 (by simp [WideAt.IsKeyLit])]
    simp
  · rw [atKey_put_other (fun e => hs ?_), h.2 s]
    · simp [hs]
    · injection e with e
      cases nm; cases s
      rename_i a b
      cases a; cases b
      simp at e
      rw [e]
theorem SetIs.look {D : DataW Unit} {f : ByteArray → Bool} (h : SetIs D f) {P : Program} {k t e : TypeId} {w : World} {b n : Nat} (ho : w.ownsMap P k (plainElem P e) b n D) (K : Keyed P k) (ht : P.underlying t = some (.map k e)) (he : P.underlying e = some (.int .i64))
    (hz : (zeroValue e).run P w = .ok (.int .i64 0) w) {s : ByteArray} (hkey : keyOf P k (.string s) = some (.string s.data.toList)) :
    (Instr.lookup t (.map (some b)) (.string s) false).run P w = .ok (.int .i64 (if f s then 1 else 0)) w := by
  obtain ⟨c, hrun, hat, _⟩ := ho.lookup_int K ht he hz hkey
  rw [h.2 s] at hat
  injection hat with hat
  injection hat with _ hat
  rw [hrun, hat]
theorem map_block {H : Type} {P : Program} {k : TypeId} {R : Value → Option (DataW H × List MemPlace)} {w w' : World} {b n : Nat} {D : DataW H} (h : w.ownsMap P k R b n D) (he : w'.heap[b]? = w.heap[b]?) : w'.ownsMap P k R b n D := by
  obtain ⟨es, clock, hb, F, hs, hD⟩ := h
  exact ⟨es, clock, he.trans hb, F, hs, hD⟩
theorem map_below {H : Type} {P : Program} {k : TypeId} {R : Value → Option (DataW H × List MemPlace)} {w w' : World} {b n : Nat} {D : DataW H} (h : w.ownsMap P k R b n D) (hb : Below w.heap.size w w') : w'.ownsMap P k R b n D := map_block h (hb.block b h.lt)
theorem map_drewN {H : Type} {P : Program} {k : TypeId} {R : Value → Option (DataW H × List MemPlace)} {w : World} {b n : Nat} {D : DataW H} (h : w.ownsMap P k R b n D) (m : Nat) : (w.drewN m).ownsMap P k R b n D := h
theorem row_map_ne {H : Type} {P : Program} {k : TypeId} {R : Value → Option (DataW H × List MemPlace)} {w : World} {b n : Nat} {D : DataW H} (h : w.ownsMap P k R b n D) {base : Nat} {e : TypeId} {size m : Nat} {v : Value} {xs : List Value} (hr : w.ownsRow base e size v m xs) : v.ownBlock ≠ some b := by
  obtain ⟨es, clock, hb, _⟩ := h
  rcases hr.2 with ⟨rfl, _⟩ | ⟨g, cap, cur, rfl, _, hg, _⟩
  · simp [Value.ownBlock]
  · intro he
    injection he with he
    have he' : g = b := he
    rw [he', hb] at hg
    injection hg with hg
    cases hg
theorem row_stored {H : Type} {P : Program} {k : TypeId} {R : Value → Option (DataW H × List MemPlace)} {w w' : World} {b n : Nat} {D : DataW H} (h : w.ownsMap P k R b n D) {base : Nat} {e : TypeId} {size m : Nat} {v : Value} {xs : List Value} (hr : w.ownsRow base e size v m xs) (hg : w.grownBy w' (some b)) :
    w'.ownsRow base e size v m xs := hr.kept hg (.inr (row_map_ne h hr))
theorem map_app {H : Type} {P : Program} {k : TypeId} {R : Value → Option (DataW H × List MemPlace)} {w w' : World} {b n : Nat} {D : DataW H} (h : w.ownsMap P k R b n D) {base : Nat} {e : TypeId} {size m : Nat} {v : Value} {xs : List Value} (hr : w.ownsRow base e size v m xs) (hg : w.grownBy w' v.ownBlock) :
    w'.ownsMap P k R b n D := h.kept hg (fun he => row_map_ne h hr he.symm)
theorem blk_map_ne {H : Type} {P : Program} {k : TypeId} {R : Value → Option (DataW H × List MemPlace)} {w : World} {b n : Nat} {D : DataW H} (h : w.ownsMap P k R b n D) {g : Nat} {t : TypeId} {cs : Array Value} (hr : Blk w g t cs) : g ≠ b := by
  obtain ⟨es, clock, hb, _⟩ := h
  intro he
  unfold Blk at hr
  rw [he, hb] at hr
  injection hr with hr
  cases hr
theorem blk_stored {H : Type} {P : Program} {k : TypeId} {R : Value → Option (DataW H × List MemPlace)} {w w' : World} {b n : Nat} {D : DataW H} (h : w.ownsMap P k R b n D) {g : Nat} {t : TypeId} {cs : Array Value} (hr : Blk w g t cs) (hg : w.grownBy w' (some b)) : Blk w' g t cs :=
  hr.grown hg (fun he => blk_map_ne h hr (by injection he))
theorem below_stored {a w w' : World} {B b : Nat} (h : Below B a w) (hB : B ≤ w.heap.size) (hb : B ≤ b) (hg : w.grownBy w' (some b)) : Below B a w' := h.grown hg hB (fun k hk => by injection hk with hk; omega)
end Go.Frm
