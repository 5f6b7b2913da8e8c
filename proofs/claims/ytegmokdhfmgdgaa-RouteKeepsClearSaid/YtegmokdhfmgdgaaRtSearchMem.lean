/- The grid of a search in memory: a place is marked as done, a state is settled, one is taken from the queue. -/
import Derived.Test.YtegmokdhfmgdgaaRtStepPlain
import Derived.Test.YtegmokdhfmgdgaaRtGPush
namespace Go.Proofs.Ytegmokdhfmgdgaa.Rt
open Go.RowKit Go.Frm Go.Frm.Rt

section
variable {w w' : World} {b base gd N : Nat} {xV yV lV : Value} {dn : Nat → Bool} {cA : Option Addr} {cn cc : Nat} {cl : Nat → St} {qA : Option Addr} {qn qc : Nat} {f : Nat → St}
theorem GQ.setDone (h : GQ w b base gd N xV yV lV dn cA cn cc cl qA qn qc f) (j : Nat) : GQ (w.setCell ⟨gd, j, none⟩ (.bool true)) b base gd N xV yV lV (upd dn j true) cA cn cc cl qA qn qc f :=
  ⟨h.grid.far (p := ⟨gd, j, none⟩) (Ne.symm h.gdn) _, h.dne.set j true, h.gdb, h.gdn, h.bb, by rw [show (w.setCell ⟨gd, j, none⟩ (.bool true)).heap.size = w.heap.size by simp [World.setCell]]; exact h.bs,
    own_setCell_low (a := ⟨gd, j, none⟩) h.que h.gdb _, own_setCell_low (a := ⟨gd, j, none⟩) h.clo h.gdb _, h.sep, h.hp⟩
/-- a state is settled -/
theorem GQ.settled (h : GQ w b base gd N xV yV lV dn cA cn cc cl qA qn qc f) (s : St) {w1 w2 : World} {cA' : Option Addr} {c' : Nat} (h1 : Below w.heap.size w w1)
    (hown : w2.ownsRow base 61 6 (.slice cA' (cn + 1) c') (cn + 1) (rowF (cn + 1) 6 (stF (upd cl cn s)))) (hg : w1.grownBy w2 (Value.slice cA cn cc).ownBlock)
    (hat : ∀ k, (Value.slice cA' (cn + 1) c').ownBlock = some k → (Value.slice cA cn cc).ownBlock = some k ∨ w.heap.size ≤ k) :
    GQ (w2.setCell ⟨b, 5, none⟩ (.slice cA' (cn + 1) c')) b base gd N xV yV lV dn cA' (cn + 1) c' (upd cl cn s) qA qn qc f := by
  have hg1 := h.grid.below h1 h.grid.lt
  have hcb : some b ≠ (Value.slice cA cn cc).ownBlock := own_not_low h.clo h.bb
  have hcd : some gd ≠ (Value.slice cA cn cc).ownBlock := own_not_low h.clo h.gdb
  have hg2 := hg1.grown hg hcb
  have hd2 := (h.dne.below h1 h.dne.lt).blk.grown hg hcd
  have hq2 : w2.ownsRow base 61 6 (.slice qA qn qc) qn (rowF qn 6 (stF f)) := by
    have hc : Chg (fun k => some k = (Value.slice cA cn cc).ownBlock) w w2 := (Chg.of_below h1).grown hg (fun k hk => .inl hk.symm)
    exact own_keep h.que hc (fun k hk e => h.sep k e.symm hk)
  refine ⟨hg2.set_ 5 _, hd2.far (p := ⟨b, 5, none⟩) h.gdn _, h.gdb, h.gdn, h.bb, ?_, own_setCell_low (a := ⟨b, 5, none⟩) hq2 h.bb _, own_setCell_low (a := ⟨b, 5, none⟩) hown h.bb _, fun k hk hk2 => ?_, h.hp⟩
  · rw [show (w2.setCell ⟨b, 5, none⟩ (.slice cA' (cn + 1) c')).heap.size = w2.heap.size by simp [World.setCell]]
    have := h1.size
    have := hg.size
    have := h.bs
    omega
  · rcases hat k hk with h2 | h2
    · exact h.sep k h2 hk2
    · have := (own_blk_ge h.que hk2).2
      omega
theorem stF_push2 (cl : Nat → St) (m : Nat) (s : St) : rowF (m + 1) 6 (stF (upd cl m s)) = rowF m 6 (stF cl) ++ (stC s).toList := stF_push cl m s
end
end Go.Proofs.Ytegmokdhfmgdgaa.Rt
